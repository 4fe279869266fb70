/- A bank beside the law's own list of sizes. -/
import Derived.Test.YtpoeneabhoajaaaDoorBkK
namespace Go.Proofs.YtpoeneabhoajaaaDoor
open Go.RowKit

structure NB (w wr : World) (F : Nat → Prop) (g : Nat) (s : Bst) (A : Option Addr) (k c : Nat) (l : List Int) : Prop where
  b : BO wr F g s
  lo : ∀ x, F x → w.heap.size ≤ x
  bel : Below w.heap.size w wr
  row : wr.ownsRow w.heap.size 3 1 (.slice A k c) k (l.map i64v)
  out : ∀ r, (Value.slice A k c).ownBlock = some r → ¬ F r
section
variable {w wr w1 w2 : World} {F F' : Nat → Prop} {g : Nat} {s s' : Bst} {A A' : Option Addr} {k c k' c' : Nat} {l l' : List Int}
theorem NB.len (h : NB w wr F g s A k c l) : l.length = k := by have := h.row.1; simpa using this
theorem NB.below (h : NB w wr F g s A k c l) (hb : Below wr.heap.size wr w1) : NB w w1 F g s A k c l :=
  ⟨h.b.below hb, h.lo, h.bel.trans (hb.mono h.bel.size), own_same h.row (fun r hr => hb.block r (h.row.lt r hr).2), h.out⟩
theorem NB.step (h : NB w wr F g s A k c l) (ht : Turn F wr w1) (hd : BO w1 F' g s') (hF : ∀ x, F' x → F x ∨ wr.heap.size ≤ x) : NB w w1 F' g s' A k c l :=
  ⟨hd, fun x hx => (hF x hx).elim (h.lo x) fun e => Nat.le_trans h.bel.size e, h.bel.trans (ht.below h.lo h.bel.size),
   own_same h.row (fun r hr => ht.block r (h.row.lt r hr).2 (h.out r hr)), fun r hr hf => (hF r hf).elim (h.out r hr) fun e => by have := (h.row.lt r hr).2; omega⟩
theorem NB.grow (h : NB w w1 F g s A k c l) {o : Obj} (hrow : w2.ownsRow w.heap.size 3 1 (.slice A' k' c') k' (l'.map i64v)) (hg : (w1.alloc o).grownBy w2 (Value.slice A k c).ownBlock)
    (hat : (Value.slice A' k' c').ownBlock = (Value.slice A k c).ownBlock ∨ (Value.slice A' k' c').ownBlock = some (w1.alloc o).heap.size) : NB w w2 F g s A' k' c' l' := by
  have hs : w1.heap.size + 1 ≤ w2.heap.size := by have := hg.size; simpa using this
  refine ⟨h.b.keep (by omega) fun b hb => ?_, h.lo, (h.bel.alloc h.bel.size _).trans (grown_below hg (fun r hr => (h.row.lt r hr).1) (by have := h.bel.size; simp; omega)), hrow, fun r hr hf => ?_⟩
  · have := h.b.lt b hb
    exact (hg.block b (by simp; omega) fun e => h.out b e.symm hb).trans (Below.heap_alloc _ _ _ this)
  · rcases hat with e | e
    · exact h.out r (by rw [← e]; exact hr) hf
    · have := h.b.lt r hf
      rw [hr] at e
      injection e with e
      simp at e
      omega
theorem NB.form (h : NB w wr F g s A k c l) {j : Nat} (hj : j < k) : ∃ r, A = some ⟨r, 0, none⟩ ∧ r < wr.heap.size ∧ wr.cell? ⟨r, j, none⟩ = some (.int .i64 (l[j]?.getD 0)) ∧ wr.frozen? ⟨r, j, none⟩ = false := by
  obtain ⟨b, o, rfl, hb, hc⟩ := (SL.of_own h.row).2 j (by omega)
  obtain ⟨A2, c2, he, _, h2⟩ := own_form _ h.row
  injection he with he
  subst he
  rcases h2 with h2 | ⟨r, h2, _, _⟩
  · cases h2
  · injection h2 with h2
    injection h2 with h2 h3
    subst h2
    subst h3
    have hl := h.len
    refine ⟨b, rfl, hb, ?_, frozen_of_own h.row j⟩
    rw [Nat.zero_add] at hc
    rw [hc, List.getElem?_map, List.getElem?_eq_getElem (by omega)]
    rfl
theorem NB.zero {r : Nat} (h : NB w wr F g s (some ⟨r, 0, none⟩) k c l) {j : Nat} (hj : j < k) : NB w (wr.setCell ⟨r, j, none⟩ (.int .i64 0)) F g s (some ⟨r, 0, none⟩) k c (l.set j 0) := by
  have hr : (Value.slice (some ⟨r, 0, none⟩) k c).ownBlock = some r := rfl
  have h1 := own_set (v := .int .i64 0) h.row hj
  refine ⟨h.b.keep (by simp [World.setCell]) fun b hb => heap_setCell_other _ _ _ _ fun e => h.out r hr (by have e : b = r := e; rw [← e]; exact hb), h.lo, h.bel.setCell (p := ⟨r, j, none⟩) (h.row.lt r hr).1 _, ?_, h.out⟩
  rw [List.map_set]
  exact h1
end
theorem sizes_added {s : Bst} {n : Int} (h : s.addE n = 0) : (s.added n).sizes = s.sizes ++ [n] := by
  have hn : 1 ≤ n := by
    unfold Bst.addE at h
    split at h
    · cases h
    · split at h
      · cases h
      · split at h
        · rename_i h3; exact h3.1
        · cases h
  unfold Bst.added Bst.sizes
  rw [if_pos h, List.map_append]
  simp only [List.map_cons, List.map_nil, sizeO, List.length_replicate]
  rw [Int.toNat_of_nonneg (by omega)]
theorem sizes_detached {s : Bst} {d : Nat} (h : s.liveE d = 0) : (s.detached d).sizes = s.sizes.set d 0 := by
  unfold Bst.detached Bst.sizes
  rw [if_neg (by rw [h]; simp), List.map_set, Int.toNat_natCast]
  rfl
theorem sizes_live {s : Bst} {d : Nat} (hd : s.down = false) (h : 0 < s.sizes[d]?.getD 0) : s.liveE d = 0 := by
  unfold Bst.liveE
  rw [if_neg (by rw [hd]; simp)]
  unfold Bst.sizes at h
  rw [List.getElem?_map] at h
  cases h1 : s.ds[d]? with
  | none => rw [h1] at h; simp at h
  | some o =>
    rw [h1] at h
    cases o with
    | none => simp [sizeO] at h
    | some ss => exact (dev_ok h1).1
theorem sizes_len (s : Bst) : s.sizes.length = s.ds.length := by unfold Bst.sizes; simp
theorem added_down (s : Bst) (n : Int) : (s.added n).down = s.down := by unfold Bst.added; split <;> rfl
theorem detached_down (s : Bst) (n : Int) : (s.detached n).down = s.down := by unfold Bst.detached; split <;> rfl

end Go.Proofs.YtpoeneabhoajaaaDoor
