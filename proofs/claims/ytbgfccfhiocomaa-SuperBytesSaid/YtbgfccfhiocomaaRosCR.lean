/- Roster's Grow, Cancel, Remove by contract. -/
import Derived.Test.YtbgfccfhiocomaaRosBR
namespace Go.Proofs.Ytbgfccfhiocomaa
open Go.RowKit Go.Shelf

/-- A store into a cell that holds a slice turns no entries. -/
theorem ES.set_slice {w : World} {B g n : Nat} {a a' : Option Addr} {n' c' : Nat} {xs : List (Int × Int)} {t : TypeId} {fr : Nat × Nat} {v : Value} (h : ES w B a n xs) (hg : w.heap[g]? = some (.cells #[.slice a' n' c'] t fr)) : ES (w.setCell ⟨g, 0, none⟩ v) B a n xs := by
  refine ⟨⟨h.1.1, fun j hj => ?_⟩, h.2⟩
  obtain ⟨b, o, ha, hb, hc⟩ := h.1.2 j hj
  refine ⟨b, o, ha, hb, ?_⟩
  by_cases e : b = g
  · subst e
    rw [cell_of_row _ _ _ _ _ _ hg] at hc
    have hl := h.1.1
    obtain ⟨u, hu⟩ : ∃ u, (xs.flatMap enC)[j]? = some u := ⟨_, List.getElem?_eq_getElem (by omega)⟩
    have hu1 := List.mem_of_getElem? hu
    rw [hu] at hc
    have ho : o + j = 0 := by
      by_cases h0 : o + j = 0
      · exact h0
      · rw [Array.getElem?_eq_none (by simp; omega)] at hc
        cases hc
    rw [ho] at hc
    simp at hc
    obtain ⟨s, _, hs⟩ := List.mem_flatMap.1 hu1
    rw [← hc] at hs
    simp [enC] at hs
  · exact (World.cell?_of_block (w := w) (heap_setCell_other _ _ _ _ e)).trans hc






end Go.Proofs.Ytbgfccfhiocomaa
