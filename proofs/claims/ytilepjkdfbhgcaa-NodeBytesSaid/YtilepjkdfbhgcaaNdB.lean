/- Node.pairs by contract. -/
import Derived.Test.YtilepjkdfbhgcaaNdA
namespace Go.Proofs.Ytilepjkdfbhgcaa
open Go.RowKit Go.Shelf

theorem el_pair : ElemOk Try.prog 49 52 2 16 := .mk' Try.underlying49 (z := .agg #[.int .i64 0, .int .i64 0]) (by kernel_rfl) rfl (by decide)
theorem own_less {w : World} {B B' : Nat} {e : TypeId} {s n : Nat} {v : Value} {xs : List Value} (h : w.ownsRow B e s v n xs) (hB : B' ≤ B) : w.ownsRow B' e s v n xs := by
  refine ⟨h.1, ?_⟩
  rcases h.2 with h0 | ⟨g, cap, cur, h1, h2, h3⟩
  · exact .inl h0
  · exact .inr ⟨g, cap, cur, h1, by omega, h3⟩
/-- Keys with their values. -/
def pairsOf (ks vs : List Int) : List (Int × Int) := ks.zip vs
/-- A new slice of pairs is answered; what was there is as it was. -/
def RetP (w : World) (xs : List (Int × Int)) (e : Ending) (w' : World) : Prop :=
  ∃ A c, e = .returned (.slice A xs.length c) ∧ w'.ownsRow w.heap.size 52 2 (.slice A xs.length c) xs.length (xs.flatMap enC) ∧ Below w.heap.size w w'
theorem zip_take_succ {ks vs : List Int} {k : Nat} {x y : Int} (hx : ks[k]? = some x) (hy : vs[k]? = some y) : (ks.zip vs).take (k + 1) = (ks.zip vs).take k ++ [(x, y)] := by
  have hz : (ks.zip vs)[k]? = some (x, y) := by rw [List.getElem?_zip_eq_some]; exact ⟨hx, hy⟩
  obtain ⟨hl, he⟩ := List.getElem?_eq_some_iff.1 hz
  rw [List.take_succ_eq_append_getElem hl, he]

set_option maxRecDepth 20000 in
set_option maxHeartbeats 1000000 in
theorem pairs_any (lv : Int) (a a' : Option Addr) (n c c' : Nat) (ks vs : List Int) (w : World) (hk : IS w w.heap.size a n ks) (hv : IS w w.heap.size a' n vs) (hn : n ≤ 1000000) :
    Calls Try.prog 37 #[.agg #[.int .i64 lv, .slice a n c, .slice a' n c']] w (RetP w (pairsOf ks vs)) := by
  have HKS := mkHid hk
  have HVS := mkHid hv
  have HLK := mkHid hk.len
  have HLV := mkHid hv.len
  have HLZ := mkHid (show (pairsOf ks vs).length = n by unfold pairsOf; rw [List.length_zip, hk.len, hv.len]; omega)
  clear hk hv
  go_enter Try.func37, Try.ntmps37
  go_wp2_with fail
  go_loopw [3, 9] (fun v i wr => ∃ (k : Nat) (A : Option Addr) (C : Nat), k ≤ n ∧ i = .int .i64 k ∧ v = .slice A k C ∧ Hid (wr.ownsRow (w.heap.size + 1) 52 2 (.slice A k C) k (((pairsOf ks vs).take k).flatMap enC)) ∧ Hid (Below w.heap.size w wr) ∧ Hid (wr.heap[w.heap.size]? = some (.cells #[.int .i64 lv, .slice a n c, .slice a' n c'] 32))) (fun _ i _ => n - (intOf i).toNat)
  case atStart => exact ⟨0, none, 0, Nat.zero_le _, rfl, rfl, mkHid (World.ownsRow_nil _ _ _ _), mkHid ((Below.refl _ _).alloc (Nat.le_refl _) _), mkHid (heap_alloc_new _ _)⟩
  case round =>
    obtain ⟨k, A, C, hk, rfl, rfl, HO, HB, HQ⟩ := hrel
    have hsz := HB.out.size
    have hlt0 : w.heap.size < wr.heap.size := (Array.getElem?_eq_some_iff.1 HQ.out).1
    by_cases hlt : k < n
    · obtain ⟨b, o, rfl, hb, hck, hx0, hx1⟩ := HKS.out.at_ hlt
      obtain ⟨b', o', rfl, hb', hcv, hy0, hy1⟩ := HVS.out.at_ hlt
      have d1 := (HB.out.cell (p := ⟨b, o + k, none⟩) hb).trans hck
      have d2 := (HB.out.cell (p := ⟨b', o' + k, none⟩) hb').trans hcv
      have d3 := cell_of_row wr w.heap.size 2 _ _ _ HQ.out
      simp at d3
      have hkx : ks[k]? = some (ks[k]?.getD 0) := by rw [List.getElem?_eq_getElem (by have := HLK.out; omega)]; rfl
      have hvx : vs[k]? = some (vs[k]?.getD 0) := by rw [List.getElem?_eq_getElem (by have := HLV.out; omega)]; rfl
      have HZ := mkHid (zip_take_succ hkx hvx)
      clear hkx hvx hck hcv
      generalize ks[k]?.getD 0 = x at *
      generalize vs[k]?.getD 0 = y at *
      go_wp2_with (at_builtin; refine wpList_app _ rfl (.tmp 14) (.tmp 22) _ rfl (w.heap.size + 1) el_pair A k C _ rfl (HO.out.alloc _) (wr.heap.size + 1) (some ⟨wr.heap.size, 0, none⟩) 1 1 (enC (x, y)) rfl (SL.of_block (heap_alloc_new wr _) rfl (by omega)) (by have := enC_one [(x, y)]; simpa using this) (by unfold maxLen; omega) (by omega) (by simp; omega) ?_; intro A' C' w3 ho3 hg3 _)
      have HO3 := mkHid ho3
      have HB3 := mkHid ((HB.out.alloc hsz _).grown hg3 (by simp; omega) (fun k hk => by have := own_base HO.out k hk; omega))
      have HQ3 := mkHid ((hg3.block w.heap.size (by simp; omega) (fun e => by have := (HO.out.lt _ e.symm).1; omega)).trans ((Below.heap_alloc _ _ _ hlt0).trans HQ.out))
      clear ho3 hg3
      go_roundw
      case measure => simp [intOf]; omega
      case rel =>
        refine ⟨k + 1, A', C', by omega, by go_num, rfl, mkHid ?_, HB3, HQ3⟩
        have h3 := HO3.out
        unfold pairsOf
        unfold pairsOf at h3
        rw [HZ.out, List.flatMap_append]
        simpa using h3
    · obtain rfl : k = n := by omega
      go_wp2_with fail
      go_ret
      have hz : (pairsOf ks vs).take k = pairsOf ks vs := List.take_of_length_le (by rw [HLZ.out]; omega)
      have HO2 := mkHid HO.out
      rw [hz] at HO2
      refine ⟨A, C, by rw [HLZ.out]; rfl, ?_, HB.out⟩
      rw [HLZ.out]
      exact own_less HO2.out (by omega)

end Go.Proofs.Ytilepjkdfbhgcaa
