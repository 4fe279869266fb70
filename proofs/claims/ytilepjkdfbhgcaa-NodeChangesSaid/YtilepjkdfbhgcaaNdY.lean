/- The document's Cut and Put by contract. -/
import Derived.Test.YtilepjkdfbhgcaaNdX
namespace Go.Proofs.Ytilepjkdfbhgcaa
open Go.RowKit Go.Shelf

theorem set_alloc_new (w : World) (p : Addr) (v : Value) (o : Obj) : ((w.setCell p v).alloc o).heap[w.heap.size]? = some o := by
  have h := heap_alloc_new (w.setCell p v) o
  rwa [setCell_size] at h
theorem keys_app (l m : List (Int × Int)) : keysOf (l ++ m) = keysOf l ++ keysOf m := by unfold keysOf; rw [List.map_append]
theorem vals_app (l m : List (Int × Int)) : valsOf (l ++ m) = valsOf l ++ valsOf m := by unfold valsOf; rw [List.map_append]
theorem IS.take {w : World} {B n : Nat} {a : Option Addr} {l : List Int} {k : Nat} (h : IS w B a n l) (hk : k ≤ n) : IS w B a k (l.take k) :=
  ⟨by have := h.1.take hk; rwa [Nat.mul_one, ← List.map_take] at this, fun x hx => h.2 x (List.mem_of_mem_take hx)⟩
theorem IS.drop {w : World} {B n b o : Nat} {l : List Int} {k : Nat} (h : IS w B (some ⟨b, o, none⟩) n l) (hk : k ≤ n) : IS w B (some ⟨b, o + k, none⟩) (n - k) (l.drop k) := by
  refine ⟨?_, fun x hx => h.2 x (List.mem_of_mem_drop hx)⟩
  have h1 := h.1.drop (cap := n + k + 1) hk (by omega)
  rw [if_neg (by omega), Nat.mul_one, ← List.map_drop] at h1
  have e1 : (⟨b, o, none⟩ : Addr).add k = ⟨b, o + k, none⟩ := by unfold Addr.add; split <;> simp_all
  rw [Option.map_some, e1] at h1
  exact h1

set_option maxRecDepth 20000 in
set_option maxHeartbeats 2000000 in
theorem dcut_any (lv : Int) (a a' : Option Addr) (n c c' : Nat) (l : List (Int × Int)) (w : World) (hk : IS w w.heap.size a n (keysOf l)) (hv : IS w w.heap.size a' n (valsOf l)) (hc : CapOk n c) (hc' : CapOk n c') :
    Calls Try.prog 27 #[.agg #[.int .i64 lv, .slice a n c, .slice a' n c']] w (RetL w (cutOf lv l)) := by
  have HL := mkHid (show l.length = n by rw [← keys_len, hk.len])
  obtain ⟨W, hW⟩ : ∃ W, w.alloc (.cells #[.int .i64 lv, .slice a n c, .slice a' n c'] 24) = W := ⟨_, rfl⟩
  have HAL := mkHid (show Below w.heap.size w W by rw [← hW]; exact below_al (Below.refl _ _) _)
  have HKS := mkHid ((hk.below HAL.out).more HAL.out.size)
  have HVS := mkHid ((hv.below HAL.out).more HAL.out.size)
  have hQ : W.heap[w.heap.size]? = some (.cells #[.int .i64 lv, .slice a n c, .slice a' n c'] 24) := by rw [← hW]; exact heap_alloc_new _ _
  have k0 := cell_of_row W w.heap.size 0 _ _ _ hQ
  have k1 := cell_of_row W w.heap.size 1 _ _ _ hQ
  have k2 := cell_of_row W w.heap.size 2 _ _ _ hQ
  simp at k0 k1 k2
  have HWS := mkHid (show w.heap.size < W.heap.size from (Array.getElem?_eq_some_iff.1 hQ).1)
  have HC := mkHid hc
  have HC2 := mkHid hc'
  clear hk hv hQ hc hc'
  by_cases h0 : n = 0
  · subst h0
    have HV := mkHid (show cutOf lv l = [] from if_pos HL.out)
    go_enter Try.func27, Try.ntmps27
    go_wp2_with fail
    go_ret
    rw [HV.out]
    exact ⟨none, 0, rfl, Nat.zero_le _, NS.nil, HAL.out⟩
  have h00 : ((n : Int) == 0) = false := by simp; omega
  by_cases h7 : n < 8
  · have HV := mkHid (show cutOf lv l = [nodeOf lv l] by unfold cutOf; rw [if_neg (by rw [HL.out]; exact h0), if_pos (by rw [HL.out]; omega)])
    have h7i : (n : Int) < 8 := by omega
    go_enter Try.func27, Try.ntmps27
    go_wp2_with fail
    go_ret
    rw [HV.out]
    exact ⟨_, _, rfl, Nat.le_refl _, NS.one HKS.out HVS.out HC.out HC2.out, below_al HAL.out _⟩
  · have HV := mkHid (show cutOf lv l = [nodeOf lv (l.take 4), nodeOf lv (l.drop 4)] by unfold cutOf; rw [if_neg (by rw [HL.out]; exact h0), if_neg (by rw [HL.out]; omega)])
    obtain ⟨b, o, rfl, hb0, _, _, _⟩ := HKS.out.at_ (j := 0) (by omega)
    obtain ⟨b', o', rfl, hb0', _, _, _⟩ := HVS.out.at_ (j := 0) (by omega)
    obtain ⟨hc1, hc2, hc3⟩ := HC.out
    obtain ⟨hd1, hd2, hd3⟩ := HC2.out
    have HKC := mkHid (show ∀ Z, Below W.heap.size W Z → (Z.cell? ⟨w.heap.size, 0, none⟩ = some (.int .i64 lv) ∧ Z.cell? ⟨w.heap.size, 1, none⟩ = some (.slice (some ⟨b, o, none⟩) n c) ∧ Z.cell? ⟨w.heap.size, 2, none⟩ = some (.slice (some ⟨b', o', none⟩) n c')) from fun Z hZ => ⟨(hZ.cell (p := ⟨w.heap.size, 0, none⟩) HWS.out).trans k0, (hZ.cell (p := ⟨w.heap.size, 1, none⟩) HWS.out).trans k1, (hZ.cell (p := ⟨w.heap.size, 2, none⟩) HWS.out).trans k2⟩)
    have h8i : ¬ ((n : Int) < 8) := by omega
    have hc4 : ¬ (c = 4) := by omega
    have hc5 : (4 : Int) ≤ (c : Int) := by omega
    have hc6 : (4 : Int) ≤ (n : Int) := by omega
    have hd4 : ¬ (c' = 4) := by omega
    have hd5 : (4 : Int) ≤ (c' : Int) := by omega
    have hc7 : 4 ≤ c := by omega
    have hd7 : 4 ≤ c' := by omega
    have hc8 : 4 ≤ n := by omega
    go_enter Try.func27, Try.ntmps27
    go_wp2_with fail
    clear hW
    go_region_held3 (fun Z => Z.cell? ⟨w.heap.size, 0, none⟩ = some (.int .i64 lv) ∧ Z.cell? ⟨w.heap.size, 1, none⟩ = some (.slice (some ⟨b, o, none⟩) n c) ∧ Z.cell? ⟨w.heap.size, 2, none⟩ = some (.slice (some ⟨b', o', none⟩) n c')) (first | exact HKC.out _ (Below.refl _ _) | exact HKC.out _ (Below.refl _ _).drew | exact HKC.out _ (below_al (Below.refl _ _) _) | exact HKC.out _ (below_al (Below.refl _ _).drew _)) (fail)
    all_goals
      go_wp2_with fail
      go_ret
      rw [HV.out]
      refine ⟨_, _, rfl, Nat.le_refl _, NS.two (by rw [keys_take]; exact HKS.out.take hc8) (by rw [vals_take]; exact HVS.out.take hc8) ⟨hc7, hc2, by omega⟩ ⟨hd7, hd2, by omega⟩ (by rw [keys_drop]; exact HKS.out.drop hc8) (by rw [vals_drop]; exact HVS.out.drop hc8) ⟨by omega, by omega, by omega⟩ ⟨by omega, by omega, by omega⟩, (below_al HAL.out _).drew⟩

/-- What the document's Put has gathered behind i rounds. -/
def accP (P : List (Int × Int)) (low d i : Nat) (x : Int × Int) : List (Int × Int) := if i ≤ low then P.take i else P.take low ++ x :: (P.take i).drop (low + d)
theorem acc_lo {P : List (Int × Int)} {low d i : Nat} {x y : Int × Int} (hi : i < low) (hy : P[i]? = some y) : accP P low d (i + 1) x = accP P low d i x ++ [y] := by
  unfold accP
  rw [if_pos (by omega), if_pos (by omega), List.take_add_one, hy]
  rfl
theorem acc_at1 {P : List (Int × Int)} {low : Nat} {x : Int × Int} (hl : low < P.length) : accP P low 1 (low + 1) x = accP P low 1 low x ++ [x] := by
  unfold accP
  rw [if_neg (by omega), if_pos (Nat.le_refl _), List.drop_of_length_le (by rw [List.length_take]; omega)]
theorem acc_at0 {P : List (Int × Int)} {low : Nat} {x y : Int × Int} (hy : P[low]? = some y) : accP P low 0 (low + 1) x = accP P low 0 low x ++ [x] ++ [y] := by
  have hl := (List.getElem?_eq_some_iff.1 hy).1
  unfold accP
  rw [if_neg (by omega), if_pos (Nat.le_refl _), Nat.add_zero, List.take_add_one, hy, List.drop_append, List.drop_of_length_le (by rw [List.length_take]; omega), List.length_take, show low - min low P.length = 0 by omega]
  simp
theorem acc_hi {P : List (Int × Int)} {low d i : Nat} {x y : Int × Int} (hd : d ≤ 1) (hi : low < i) (hy : P[i]? = some y) : accP P low d (i + 1) x = accP P low d i x ++ [y] := by
  have hl := (List.getElem?_eq_some_iff.1 hy).1
  unfold accP
  rw [if_neg (by omega), if_neg (by omega), List.take_add_one, hy, List.drop_append, List.length_take, show low + d - min i P.length = 0 by omega]
  simp
theorem acc_end {lv : Int} {ks vs : List Int} (h : rightN lv ks vs = true) (key val : Int) : putL ks vs key val =
    if lowOf ks key < ks.length then accP (pairsOf ks vs) (lowOf ks key) (if ks.contains key = true then 1 else 0) ks.length (key, val) else accP (pairsOf ks vs) (lowOf ks key) (if ks.contains key = true then 1 else 0) ks.length (key, val) ++ [(key, val)] := by
  obtain ⟨_, _, h3, _, _, h6, _⟩ := rightN_ok h
  have hl := pairs_len h3
  have hle := low_le ks key
  unfold putL accP
  cases hc : ks.contains key with
  | true =>
    have hlt := low_lt h6 hc
    rw [if_pos rfl, if_pos hlt, if_pos rfl, if_neg (by omega), List.take_of_length_le (i := ks.length) (by omega), List.set_eq_take_append_cons_drop, if_pos (by omega)]
  | false =>
    simp only [Bool.false_eq_true, if_false]
    by_cases hlt : lowOf ks key < ks.length
    · rw [if_pos hlt, if_neg (by omega), List.take_of_length_le (i := ks.length) (by omega), Nat.add_zero]
    · have : lowOf ks key = ks.length := by omega
      rw [if_neg hlt, this, if_pos (Nat.le_refl _), List.drop_of_length_le (by omega)]

end Go.Proofs.Ytilepjkdfbhgcaa
