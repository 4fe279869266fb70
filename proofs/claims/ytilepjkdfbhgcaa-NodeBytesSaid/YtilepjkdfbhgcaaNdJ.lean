/- slices.Delete of one entry, in the pairs of a node. -/
import Derived.Test.YtilepjkdfbhgcaaNdI
namespace Go.Proofs.Ytilepjkdfbhgcaa
open Go.RowKit Go.Shelf

/-- Cells laid over a block from o on. -/
def layC : Array Value → Nat → List Value → Array Value
  | cur, _, [] => cur
  | cur, o, v :: vs => layC (cur.setIfInBounds o v) (o + 1) vs
theorem layC_size : ∀ (vs : List Value) (cur : Array Value) (o : Nat), (layC cur o vs).size = cur.size
  | [], _, _ => rfl
  | v :: vs, cur, o => by rw [layC, layC_size vs, Array.size_setIfInBounds]
theorem layC_take : ∀ (vs : List Value) (cur : Array Value) (o : Nat), o + vs.length ≤ cur.size → (layC cur o vs).toList.take (o + vs.length) = cur.toList.take o ++ vs
  | [], cur, o, _ => by simp [layC]
  | v :: vs, cur, o, h => by
    simp only [List.length_cons] at h
    have ih := layC_take vs (cur.setIfInBounds o v) (o + 1) (by rw [Array.size_setIfInBounds]; omega)
    rw [layC, List.length_cons, show o + (vs.length + 1) = o + 1 + vs.length by omega, ih, Array.toList_setIfInBounds, List.take_add_one, List.take_set_of_le (Nat.le_refl _), List.getElem?_set_self (by rw [Array.length_toList]; omega), List.append_assoc]
    rfl
theorem layC_out : ∀ (vs : List Value) (cur : Array Value) (o k : Nat), k ≤ o → (layC cur o vs).toList.take k = cur.toList.take k
  | [], _, _, _, _ => rfl
  | v :: vs, cur, o, k, h => by rw [layC, layC_out vs _ (o + 1) k (by omega), Array.toList_setIfInBounds, List.take_set_of_le h]
theorem heap_cells_same {g : Nat} {t : TypeId} : ∀ (vs : List Value) (o : Nat) (w : World) (cur : Array Value), w.heap[g]? = some (.cells cur t (0, 0)) → (w.setCells g o vs).heap[g]? = some (.cells (layC cur o vs) t (0, 0))
  | [], _, _, _, h => h
  | v :: vs, o, w, _, h => heap_cells_same vs (o + 1) (w.setCell ⟨g, o, none⟩ v) _ (heap_setCell_same _ _ _ _ _ _ h)
theorem heap_cells_other {g b : Nat} (hne : b ≠ g) : ∀ (vs : List Value) (o : Nat) (w : World), (w.setCells g o vs).heap[b]? = w.heap[b]?
  | [], _, _ => rfl
  | v :: vs, o, w => (heap_cells_other hne vs (o + 1) (w.setCell ⟨g, o, none⟩ v)).trans (heap_setCell_other _ _ _ _ hne)
theorem heap_cells_size {g : Nat} : ∀ (vs : List Value) (o : Nat) (w : World), (w.setCells g o vs).heap.size = w.heap.size
  | [], _, _ => rfl
  | v :: vs, o, w => (heap_cells_size vs (o + 1) (w.setCell ⟨g, o, none⟩ v)).trans (by simp [World.setCell])

/-- All but block r is as it was. -/
structure But (r : Nat) (w w' : World) : Prop where
  os : w'.os = w.os
  tape : w'.tape = w.tape
  output : w'.output = w.output
  size : w'.heap.size = w.heap.size
  block : ∀ k, k ≠ r → w'.heap[k]? = w.heap[k]?
theorem But.refl (r : Nat) (w : World) : But r w w := ⟨rfl, rfl, rfl, rfl, fun _ _ => rfl⟩
theorem But.drew {r : Nat} {w w' : World} (h : But r w w') : But r w w'.drew := ⟨h.os, h.tape, h.output, h.size, h.block⟩
theorem But.cells {r : Nat} {w : World} : ∀ (vs : List Value) (o : Nat) (w' : World), But r w w' → But r w (w'.setCells r o vs)
  | [], _, _, h => h
  | v :: vs, o, w', h => But.cells vs (o + 1) (w'.setCell ⟨r, o, none⟩ v) ⟨h.os, h.tape, h.output, by simp [World.setCell, h.size], fun k hk => (heap_setCell_other _ _ _ _ hk).trans (h.block k hk)⟩

theorem zero_pair (w : World) : (zeroValue 52).run Try.prog w = .ok (.agg #[.int .i64 0, .int .i64 0]) w := by kernel_rfl

/-- 'clear' of one entry. -/
theorem clear_one (w : World) (ty : TypeId) (r o c : Nat) (hc0 : (w.cell? ⟨r, o, none⟩).isSome = true) (hc1 : (w.cell? ⟨r, o + 1, none⟩).isSome = true) (hf0 : w.frozen? ⟨r, o, none⟩ = false) (hf1 : w.frozen? ⟨r, o + 1, none⟩ = false) :
    (Builtin.clear_ #[49] ty #[.slice (some ⟨r, o, none⟩) 1 c]).run Try.prog w = .ok (.tuple #[]) (w.setCells r o [.int .i64 0, .int .i64 0]) := by
  have hst := run_storeCells_cells (P := Try.prog) r o [.int .i64 0, .int .i64 0] 0 w (fun j hj => by
    have : j = 0 ∨ j = 1 := by simp at hj; omega
    rcases this with rfl | rfl
    · exact hc0
    · exact hc1) (fun j hj => by
    have : j = 0 ∨ j = 1 := by simp at hj; omega
    rcases this with rfl | rfl
    · exact hf0
    · exact hf1) (fun v hv => by simp at hv; rcases hv with rfl | rfl <;> rfl)
  simp only [Nat.add_zero] at hst
  have hz : (Builtin.zeroCells (Value.agg #[.int .i64 0, .int .i64 0]).cells 1).toList = [.int .i64 0, .int .i64 0] := by
    simp [Builtin.zeroCells, Value.cells]
    rfl
  simp [Builtin.clear_, run_underlying Try.underlying49, hz, hst]

set_option maxRecDepth 20000 in
set_option maxHeartbeats 4000000 in
theorem deleteP_any (r i m c : Nat) (cells : List Value) (w : World) (ho : w.ownsRow 0 52 2 (.slice (some ⟨r, 0, none⟩) (i + 1 + m) c) (i + 1 + m) cells) (h1c : ∀ u ∈ cells, u.oneCell' = true) (hn : i + 1 + m ≤ 1000000) :
    Calls Try.prog 43 #[.slice (some ⟨r, 0, none⟩) (i + 1 + m) c, .int .i64 i, .int .i64 ((i : Int) + 1)] w fun e w' => e = .returned (.slice (some ⟨r, 0, none⟩) (i + m) c) ∧
      w'.ownsRow 0 52 2 (.slice (some ⟨r, 0, none⟩) (i + m) c) (i + m) (cells.take (i * 2) ++ cells.drop ((i + 1) * 2)) ∧ But r w w' := by
  have hcl : cells.length = (i + 1 + m) * 2 := ho.1
  obtain ⟨cur, hg, hcap, hmax, hcs, hct⟩ : ∃ cur, w.heap[r]? = some (.cells cur 52 (0, 0)) ∧ i + 1 + m ≤ c ∧ c ≤ maxLen ∧ cur.size = c * 2 ∧ cur.toList.take ((i + 1 + m) * 2) = cells := by
    rcases ho.2 with ⟨h0, _⟩ | ⟨r', cap, cur, h0, _, h2, h3, h4, h5, h6⟩
    · cases h0
    · injection h0 with a1 a2 a3
      injection a1 with a1
      injection a1 with a1
      subst a1
      subst a3
      exact ⟨cur, h2, h3, h4, h5, h6⟩
  have hnews : (cells.drop ((i + 1) * 2)).length = m * 2 := by rw [List.length_drop, hcl]; omega
  have hcell : ∀ j, j < c * 2 → (w.cell? ⟨r, j, none⟩).isSome = true := fun j hj => by
    rw [cell_of_row _ _ _ _ _ _ hg, Array.getElem?_eq_getElem (by omega)]; rfl
  have hfz : ∀ j, w.frozen? ⟨r, j, none⟩ = false := fun j => frozen_of_row _ _ _ _ _ hg
  have hread : ∀ j, j < (i + 1 + m) * 2 → w.cell? ⟨r, j, none⟩ = cells[j]? := fun j hj => by
    rw [cell_of_row _ _ _ _ _ _ hg, ← hct, List.getElem?_take, if_pos hj, Array.getElem?_toList]
  obtain ⟨ii, z, hi1, hi2, hi3, hi4, hi5⟩ := el_pair.hi
  have h0i : (0 : Int) ≤ (i : Int) + 1 := by omega
  have hib : ((i : Int) == (i : Int) + 1) = false := beq_eq_false_iff_ne.2 (by omega)
  -- the row behind the append
  have hW1 : (w.drew.setCells r (i * 2) (cells.drop ((i + 1) * 2))).heap[r]? = some (.cells (layC cur (i * 2) (cells.drop ((i + 1) * 2))) 52 (0, 0)) := heap_cells_same _ _ _ _ hg
  have hlast : ∀ ty, (Builtin.clear_ #[49] ty #[.slice (some ⟨r, (i + m) * 2, none⟩) 1 (c - (i + m))]).run Try.prog (w.drew.setCells r (i * 2) (cells.drop ((i + 1) * 2))) = .ok (.tuple #[]) ((w.drew.setCells r (i * 2) (cells.drop ((i + 1) * 2))).setCells r ((i + m) * 2) [.int .i64 0, .int .i64 0]) := fun ty =>
    clear_one _ ty r _ _ (by rw [cell_of_row _ _ _ _ _ _ hW1, Array.getElem?_eq_getElem (by rw [layC_size]; omega)]; rfl) (by rw [cell_of_row _ _ _ _ _ _ hW1, Array.getElem?_eq_getElem (by rw [layC_size]; omega)]; rfl) (frozen_of_row _ _ _ _ _ hW1) (frozen_of_row _ _ _ _ _ hW1)
  have HEND := mkHid (show ((w.drew.setCells r (i * 2) (cells.drop ((i + 1) * 2))).setCells r ((i + m) * 2) [.int .i64 0, .int .i64 0]).ownsRow 0 52 2 (.slice (some ⟨r, 0, none⟩) (i + m) c) (i + m) (cells.take (i * 2) ++ cells.drop ((i + 1) * 2)) from by
    refine ⟨by rw [List.length_append, hnews, List.length_take, hcl]; omega, .inr ⟨r, c, _, rfl, Nat.zero_le _, heap_cells_same _ _ _ _ hW1, by omega, hmax, by rw [layC_size, layC_size]; exact hcs, ?_⟩⟩
    rw [layC_out _ _ _ _ (Nat.le_refl _), show (i + m) * 2 = i * 2 + (cells.drop ((i + 1) * 2)).length by rw [hnews]; omega, layC_take _ _ _ (by rw [hnews]; omega)]
    rw [← hct, List.take_take, show min (i * 2) ((i + 1 + m) * 2) = i * 2 by omega])
  have HBUT := mkHid (show But r w ((w.drew.setCells r (i * 2) (cells.drop ((i + 1) * 2))).setCells r ((i + m) * 2) [.int .i64 0, .int .i64 0]) from But.cells _ _ _ (But.cells _ _ _ (But.refl r w).drew))
  have HCL := mkHid hcl
  clear ho hcl hct hW1
  by_cases hce : c = i + 1
  · have hm0 : m = 0 := by omega
    subst hm0
    subst hce
    have hnil : cells.drop ((i + 1) * 2) = [] := List.eq_nil_of_length_eq_zero (by omega)
    have HNIL := mkHid hnil
    rw [hnil] at hlast HEND HBUT
    have hlast1 : ∀ ty, (Builtin.clear_ #[49] ty #[.slice (some ⟨r, i * 2, none⟩) 1 1]).run Try.prog (w.drew.setCells r (i * 2) []) = .ok (.tuple #[]) ((w.drew.setCells r (i * 2) []).setCells r (i * 2) [.int .i64 0, .int .i64 0]) := fun ty => by
      have h := hlast ty
      rw [show i + 1 - (i + 0) = 1 by omega] at h
      exact h
    have hc1 : ∀ (j : Nat) (u : Value), ([] : List Value)[j]? = some u → w.drew.cell? ((⟨r, 0, none⟩ : Addr).add j) = some u := fun j u hu => by simp at hu
    have hsp : ∀ j, j < ([] : List Value).length → (w.drew.cell? ⟨r, 0 + i * 2 + j, none⟩).isSome = true ∧ w.drew.frozen? ⟨r, 0 + i * 2 + j, none⟩ = false := fun j hj => absurd hj (by simp)
    clear hlast hnil
    go_enter Try.func43, Try.ntmps43
    go_wp2_with fail
    have hle : (i : Int) ≤ (i : Int) + 1 := by omega
    have HC1 := mkHid hc1
    have HSP := mkHid hsp
    clear hc1 hsp
    go_region_law (refine step_append_room rfl (.tmp 22) (.tmp 25) _ rfl _ ii 2 Try.underlying49 hi1 hi3 r 0 i (i + 1) rfl ⟨r, 0, none⟩ 0 _ [] rfl rfl HC1.out (fun u hu => by cases hu) (by omega) HSP.out ?_)
    all_goals go_wp2_with fail
    all_goals go_ret
    all_goals exact ⟨rfl, by rw [HNIL.out]; exact HEND.out, HBUT.out⟩
  · have hce' : i + 1 < c := by omega
    go_enter Try.func43, Try.ntmps43
    go_wp2_with fail
    have hle : (i : Int) ≤ (c : Int) := by omega
    have hlast2 : ∀ ty, (Builtin.clear_ #[49] ty #[.slice (some ⟨r, (i + m) * 2, none⟩) (i + 1 + m - (i + m)) (c - (i + m))]).run Try.prog (w.drew.setCells r (i * 2) (cells.drop ((i + 1) * 2))) = .ok (.tuple #[]) ((w.drew.setCells r (i * 2) (cells.drop ((i + 1) * 2))).setCells r ((i + m) * 2) [.int .i64 0, .int .i64 0]) := fun ty => by
      have h := hlast ty
      rw [show i + 1 + m - (i + m) = 1 by omega]
      exact h
    clear hlast
    have hle2 : (i : Int) + 1 ≤ (i : Int) + 1 + m := by omega
    have hle3 : i + 1 ≤ i + 1 + m := by omega
    have hc1 : ∀ (j : Nat) (u : Value), (cells.drop ((i + 1) * 2))[j]? = some u → w.drew.cell? ((⟨r, (i + 1) * 2, none⟩ : Addr).add j) = some u := fun j u hu => by
      have hj := (List.getElem?_eq_some_iff.1 hu).1
      rw [List.getElem?_drop] at hu
      have e1 : (⟨r, (i + 1) * 2, none⟩ : Addr).add j = ⟨r, (i + 1) * 2 + j, none⟩ := by unfold Addr.add; split <;> simp_all
      rw [e1]
      show w.cell? _ = _
      rw [hread _ (by omega)]
      exact hu
    have hsp : ∀ j, j < (cells.drop ((i + 1) * 2)).length → (w.drew.cell? ⟨r, 0 + i * 2 + j, none⟩).isSome = true ∧ w.drew.frozen? ⟨r, 0 + i * 2 + j, none⟩ = false := fun j hj => ⟨hcell _ (by omega), hfz _⟩
    have HC1 := mkHid hc1
    have HSP := mkHid hsp
    clear hc1 hsp
    go_region_law (refine step_append_room rfl (.tmp 22) (.tmp 25) _ rfl _ ii 2 Try.underlying49 hi1 hi3 r 0 i c rfl ⟨r, (i + 1) * 2, none⟩ m _ (cells.drop ((i + 1) * 2)) rfl (by omega) HC1.out (fun u hu => h1c u (List.mem_of_mem_drop hu)) (by omega) HSP.out ?_)
    all_goals go_wp2_with fail
    all_goals go_ret
    all_goals exact ⟨rfl, HEND.out, HBUT.out⟩







end Go.Proofs.Ytilepjkdfbhgcaa
