/- A node under way: its cells in a block of the call's own, two rows that grow. No program in sight but for the ints' type. -/
import Derived.Test.YtilepjkdfbhgcaaNdU
namespace Go.Proofs.Ytilepjkdfbhgcaa
open Go.RowKit Go.Shelf

/-- Block X holds a node whose two rows are the call's own, apart, and lie from B on. -/
structure OUT (t : TypeId) (w0 : World) (B X : Nat) (lv : Int) (A : Option Addr) (L C : Nat) (A' : Option Addr) (L' C' : Nat) (ks vs : List Int) (w : World) : Prop where
  kr : w.ownsRow B 3 1 (.slice A L C) L (ks.map i64v)
  vr : w.ownsRow B 3 1 (.slice A' L' C') L' (vs.map i64v)
  ap : ∀ g, (Value.slice A L C).ownBlock = some g → (Value.slice A' L' C').ownBlock ≠ some g
  bl : w.heap[X]? = some (.cells #[.int .i64 lv, .slice A L C, .slice A' L' C'] t (0, 0))
  be : Below w0.heap.size w0 w
  lo : w0.heap.size ≤ X
  hi : X < B
section
variable {t : TypeId} {w0 w w1 w3 : World} {B X L C L' C' : Nat} {lv : Int} {A A' : Option Addr} {ks vs : List Int}
theorem OUT.c1 (h : OUT t w0 B X lv A L C A' L' C' ks vs w) : w.cell? ⟨X, 1, none⟩ = some (.slice A L C) := by rw [cell_of_row _ _ _ _ _ _ h.bl]; rfl
theorem OUT.c0 (h : OUT t w0 B X lv A L C A' L' C' ks vs w) : w.cell? ⟨X, 0, none⟩ = some (.int .i64 lv) := by rw [cell_of_row _ _ _ _ _ _ h.bl]; rfl
theorem OUT.c2 (h : OUT t w0 B X lv A L C A' L' C' ks vs w) : w.cell? ⟨X, 2, none⟩ = some (.slice A' L' C') := by rw [cell_of_row _ _ _ _ _ _ h.bl]; rfl
theorem OUT.fz (h : OUT t w0 B X lv A L C A' L' C' ks vs w) (j : Nat) : w.frozen? ⟨X, j, none⟩ = false := frozen_of_row _ _ _ _ _ h.bl
theorem OUT.lt (h : OUT t w0 B X lv A L C A' L' C' ks vs w) : X < w.heap.size := (Array.getElem?_eq_some_iff.1 h.bl).1
theorem OUT.base (h : OUT t w0 B X lv A L C A' L' C' ks vs w) (hB : B ≤ X + 1) : B ≤ w.heap.size := by have := h.lt; omega
/-- On in a later world. -/
theorem OUT.next (h : OUT t w0 B X lv A L C A' L' C' ks vs w) (hb : Below w.heap.size w w1) : OUT t w0 B X lv A L C A' L' C' ks vs w1 :=
  ⟨own_below h.kr hb, own_below h.vr hb, h.ap, (hb.block X h.lt).trans h.bl, h.be.trans (hb.mono h.be.size), h.lo, h.hi⟩
/-- Behind an append to the first row: what is known ahead of the store. -/
theorem OUT.key0 (h : OUT t w0 B X lv A L C A' L' C' ks vs w) (hg : w.grownBy w3 (Value.slice A L C).ownBlock) :
    w3.cell? ⟨X, 1, none⟩ = some (.slice A L C) ∧ w3.cell? ⟨X, 2, none⟩ = some (.slice A' L' C') ∧ w3.frozen? ⟨X, 1, none⟩ = false ∧ w3.frozen? ⟨X, 2, none⟩ = false ∧ w3.heap[X]? = w.heap[X]? := by
  have e : w3.heap[X]? = w.heap[X]? := hg.block X h.lt fun e => by have := (h.kr.lt _ e.symm).1; have := h.hi; omega
  exact ⟨by rw [cell_of_row _ _ _ _ _ _ (e.trans h.bl)]; rfl, by rw [cell_of_row _ _ _ _ _ _ (e.trans h.bl)]; rfl, frozen_of_row _ _ _ _ _ (e.trans h.bl), frozen_of_row _ _ _ _ _ (e.trans h.bl), e⟩
theorem OUT.key (h : OUT t w0 B X lv A L C A' L' C' ks vs w) {A3 : Option Addr} {L3 C3 : Nat} {ks3 : List Int} (hg : w.grownBy w3 (Value.slice A L C).ownBlock) (ho : w3.ownsRow B 3 1 (.slice A3 L3 C3) L3 (ks3.map i64v))
    (hd : (Value.slice A3 L3 C3).ownBlock = (Value.slice A L C).ownBlock ∨ (Value.slice A3 L3 C3).ownBlock = some w.heap.size) :
    OUT t w0 B X lv A3 L3 C3 A' L' C' ks3 vs (w3.setCell ⟨X, 1, none⟩ (.slice A3 L3 C3)) := by
  obtain ⟨_, _, _, _, e⟩ := h.key0 hg
  have hne : ∀ {v : Value} {n : Nat} {xs : List Value} {w' : World}, w'.ownsRow B 3 1 v n xs → v.ownBlock ≠ some (⟨X, 1, none⟩ : Addr).block := fun h' e' => by have h8 := (h'.lt _ e').1; have h9 := h.hi; (try simp only at h8); omega
  refine ⟨ownsRow_setCell_other ho (hne ho) _, ownsRow_setCell_other (own_blk h.vr fun g hg' => hg.block g (h.vr.lt _ hg').2 fun e' => h.ap g e'.symm hg') (fun e' => by have h8 := (h.vr.lt _ e').1; have h9 := h.hi; (try simp only at h8); omega) _, fun g h1 h2 => ?_, ?_, ?_, h.lo, h.hi⟩
  · rcases hd with h3 | h3
    · exact h.ap g (h3 ▸ h1) h2
    · rw [h3] at h1
      injection h1 with h1
      have := (h.vr.lt _ h2).2
      omega
  · rw [heap_setCell_same _ _ _ _ _ _ (e.trans h.bl)]; rfl
  · exact (h.be.grown hg h.be.size (fun k hk => by have := (h.kr.lt _ hk).1; have := h.hi; have := h.lo; omega)).setCell (p := ⟨X, 1, none⟩) h.lo _
theorem OUT.val0 (h : OUT t w0 B X lv A L C A' L' C' ks vs w) (hg : w.grownBy w3 (Value.slice A' L' C').ownBlock) :
    w3.cell? ⟨X, 1, none⟩ = some (.slice A L C) ∧ w3.cell? ⟨X, 2, none⟩ = some (.slice A' L' C') ∧ w3.frozen? ⟨X, 1, none⟩ = false ∧ w3.frozen? ⟨X, 2, none⟩ = false ∧ w3.heap[X]? = w.heap[X]? := by
  have e : w3.heap[X]? = w.heap[X]? := hg.block X h.lt fun e => by have := (h.vr.lt _ e.symm).1; have := h.hi; omega
  exact ⟨by rw [cell_of_row _ _ _ _ _ _ (e.trans h.bl)]; rfl, by rw [cell_of_row _ _ _ _ _ _ (e.trans h.bl)]; rfl, frozen_of_row _ _ _ _ _ (e.trans h.bl), frozen_of_row _ _ _ _ _ (e.trans h.bl), e⟩
theorem OUT.val (h : OUT t w0 B X lv A L C A' L' C' ks vs w) {A3 : Option Addr} {L3 C3 : Nat} {vs3 : List Int} (hg : w.grownBy w3 (Value.slice A' L' C').ownBlock) (ho : w3.ownsRow B 3 1 (.slice A3 L3 C3) L3 (vs3.map i64v))
    (hd : (Value.slice A3 L3 C3).ownBlock = (Value.slice A' L' C').ownBlock ∨ (Value.slice A3 L3 C3).ownBlock = some w.heap.size) :
    OUT t w0 B X lv A L C A3 L3 C3 ks vs3 (w3.setCell ⟨X, 2, none⟩ (.slice A3 L3 C3)) := by
  obtain ⟨_, _, _, _, e⟩ := h.val0 hg
  refine ⟨ownsRow_setCell_other (own_blk h.kr fun g hg' => hg.block g (h.kr.lt _ hg').2 fun e' => h.ap g hg' e'.symm) (fun e' => by have h8 := (h.kr.lt _ e').1; have h9 := h.hi; (try simp only at h8); omega) _, ownsRow_setCell_other ho (fun e' => by have h8 := (ho.lt _ e').1; have h9 := h.hi; (try simp only at h8); omega) _, fun g h1 h2 => ?_, ?_, ?_, h.lo, h.hi⟩
  · rcases hd with h3 | h3
    · exact h.ap g h1 (h3 ▸ h2)
    · rw [h3] at h2
      injection h2 with h2
      have := (h.kr.lt _ h1).2
      omega
  · rw [heap_setCell_same _ _ _ _ _ _ (e.trans h.bl)]; rfl
  · exact (h.be.grown hg h.be.size (fun k hk => by have := (h.vr.lt _ hk).1; have := h.hi; have := h.lo; omega)).setCell (p := ⟨X, 2, none⟩) h.lo _
/-- As a value that reads. -/
theorem OUT.isk (h : OUT t w0 B X lv A L C A' L' C' ks vs w) (hI : ∀ x ∈ ks, I64 x) : IS w w.heap.size A L ks := ⟨SL.of_own h.kr, hI⟩
theorem OUT.isv (h : OUT t w0 B X lv A L C A' L' C' ks vs w) (hI : ∀ x ∈ vs, I64 x) : IS w w.heap.size A' L' vs := ⟨SL.of_own h.vr, hI⟩
end
theorem snoc_map (ks : List Int) (x : Int) : ks.map i64v ++ [.int .i64 x] = (ks ++ [x]).map i64v := by rw [List.map_append]; rfl
theorem one_int {w : World} (x : Int) : SL (w.alloc (.cells #[.int .i64 x] 3)) (w.heap.size + 1) 1 (some ⟨w.heap.size, 0, none⟩) 1 [.int .i64 x] :=
  SL.of_block (cur := #[.int .i64 x]) (heap_alloc_new w _) rfl (by omega)

end Go.Proofs.Ytilepjkdfbhgcaa
