/- frame.Packer by contract: NewPacker, put of each size, Byte, Short, Word, Long, Bytes. -/
import Derived.Test.YtbgfccfhiocomaaNumber
namespace Go.Proofs.Ytbgfccfhiocomaa
open Go.RowKit

/-- Does a number fit in so many bytes? -/
def fits (size : Nat) (n : Int) : Bool := if size = 8 then decide (0 ≤ n ∧ n ≤ 4611686018427387903) else decide (0 ≤ n ∧ n < 256 ^ size)

/-- A packer at block g: its bytes, and whether a number did not fit. -/
structure PK (w : World) (g base : Nat) (A : Option Addr) (n C : Nat) (bs : List Int) (bad : Bool) : Prop where
  blk : w.heap[g]? = some (.cells #[.slice A n C, .bool bad] 118 (0, 0))
  own : w.ownsRow base 5 1 (.slice A n C) n (bs.map u8)
  gb : base ≤ g
  ok : okBytes bs

section
variable {w w' : World} {g base n C : Nat} {A : Option Addr} {bs : List Int} {bad : Bool}
theorem PK.len (h : PK w g base A n C bs bad) : bs.length = n := by have := h.own.1; simpa using this
theorem PK.lt (h : PK w g base A n C bs bad) : g < w.heap.size := (Array.getElem?_eq_some_iff.1 h.blk).1
theorem PK.ne (h : PK w g base A n C bs bad) : (Value.slice A n C).ownBlock ≠ some g := by
  rcases h.own.2 with ⟨h1, _⟩ | ⟨g', cap, cur, h1, _, hg, _⟩
  · rw [h1]; simp [Value.ownBlock]
  · rw [h1]
    intro e
    have e1 : g' = g := by simpa [Value.ownBlock] using e
    subst e1
    rw [h.blk] at hg
    injection hg with hg
    injection hg with _ ht
    exact absurd ht (by decide)
theorem PK.facts (h : PK w g base A n C bs bad) : w.cell? ⟨g, 0, none⟩ = some (.slice A n C) ∧ w.cell? ⟨g, 1, none⟩ = some (.bool bad) ∧ w.frozen? ⟨g, 0, none⟩ = false ∧ w.frozen? ⟨g, 1, none⟩ = false :=
  ⟨cell_of_row w g 0 _ _ _ h.blk, cell_of_row w g 1 _ _ _ h.blk, frozen_of_row w g 0 _ _ h.blk, frozen_of_row w g 1 _ _ h.blk⟩
theorem PK.setBad (h : PK w g base A n C bs bad) (b : Bool) : PK (w.setCell ⟨g, 1, none⟩ (.bool b)) g base A n C bs b :=
  ⟨heap_setCell_same _ _ _ _ _ _ h.blk, h.own.kept (row := some g) ⟨rfl, rfl, rfl, by simp [World.setCell], fun k _ hk => heap_setCell_other _ _ _ _ (fun e => hk (by rw [e]))⟩ (.inr h.ne), h.gb, h.ok⟩
theorem PK.alloc (h : PK w g base A n C bs bad) (o : Obj) : PK (w.alloc o) g base A n C bs bad :=
  ⟨(Below.heap_alloc w o g h.lt).trans h.blk, h.own.alloc o, h.gb, h.ok⟩
theorem PK.below {B : Nat} (h : PK w g base A n C bs bad) (hb : Below B w w') (hB : w.heap.size ≤ B) : PK w' g base A n C bs bad :=
  ⟨(hb.block g (by have := h.lt; omega)).trans h.blk, own_keep h.own fun b hh => hb.block b (by omega), h.gb, h.ok⟩
/-- Behind an append: the packer's own block is as it was. -/
theorem PK.grown (h : PK w g base A n C bs bad) (hg : w.grownBy w' (Value.slice A n C).ownBlock) : w'.heap[g]? = some (.cells #[.slice A n C, .bool bad] 118 (0, 0)) :=
  (hg.block g h.lt (fun e => h.ne e.symm)).trans h.blk
/-- Behind the store of what was appended. -/
theorem PK.set0 {A' : Option Addr} {n' C' : Nat} {bs' : List Int} {v : Value} (hb : w.heap[g]? = some (.cells #[v, .bool bad] 118 (0, 0))) (ho : w.ownsRow base 5 1 (.slice A' n' C') n' (bs'.map u8)) (gb : base ≤ g) (ok : okBytes bs') :
    PK (w.setCell ⟨g, 0, none⟩ (.slice A' n' C')) g base A' n' C' bs' bad := by
  refine ⟨heap_setCell_same _ _ _ _ _ _ hb, ?_, gb, ok⟩
  refine ho.kept (row := some g) ⟨rfl, rfl, rfl, by simp [World.setCell], fun k _ hk => heap_setCell_other _ _ _ _ (fun e => hk (by rw [e]))⟩ ?_
  rcases ho.2 with ⟨h1, _⟩ | ⟨g', cap, cur, h1, _, hg, _⟩
  · rw [h1]; exact .inl rfl
  · rw [h1]
    refine .inr fun e => ?_
    have e1 : g' = g := by simpa [Value.ownBlock] using e
    subst e1
    rw [hb] at hg
    injection hg with hg
    injection hg with _ ht
    exact absurd ht (by decide)
end

/-- One store of 'bad', one append, one store of the bytes. -/
theorem PK.step {w w1 : World} {g base n C : Nat} {A : Option Addr} {bs : List Int} {bad b : Bool} {o : Obj} {A' : Option Addr} {n' C' : Nat} {bs' : List Int} (h : PK w g base A n C bs bad)
    (hg : ((w.setCell ⟨g, 1, none⟩ (.bool b)).alloc o).grownBy w1 (Value.slice A n C).ownBlock) (ho : w1.ownsRow base 5 1 (.slice A' n' C') n' (bs'.map u8)) (ok : okBytes bs') :
    PK (w1.setCell ⟨g, 0, none⟩ (.slice A' n' C')) g base A' n' C' bs' b ∧ Below base w (w1.setCell ⟨g, 0, none⟩ (.slice A' n' C')) ∧
    (∀ (k : Nat) (cs : Array Value) (t : TypeId) (fr : Nat × Nat), w.heap[k]? = some (.cells cs t fr) → t ≠ 5 → t ≠ 118 → (w1.setCell ⟨g, 0, none⟩ (.slice A' n' C')).heap[k]? = some (.cells cs t fr)) := by
  have p1 := (h.setBad b).alloc o
  have hb := p1.grown hg
  have hlt := h.lt
  have hgb := h.gb
  refine ⟨PK.set0 hb ho h.gb ok, ?_, ?_⟩
  · refine Below.setCell (Below.grown ((((Below.refl base w).setCell (by exact h.gb) _)).alloc ?_ _) hg ?_ (own_base p1.own)) (by exact h.gb) _
    · simp [World.setCell]; omega
    · simp [World.setCell]; omega
  · intro k cs t fr hk h1 h2
    have hkl : k < w.heap.size := (Array.getElem?_eq_some_iff.1 hk).1
    have hkg : k ≠ g := fun e => by
      subst e
      rw [h.blk] at hk
      injection hk with hk
      injection hk with _ ht
      exact h2 ht.symm
    have hkr : some k ≠ (Value.slice A n C).ownBlock := fun e => by
      rcases h.own.2 with ⟨h3, _⟩ | ⟨g', cap, cur, h3, _, hg', _⟩
      · rw [h3] at e; simp [Value.ownBlock] at e
      · rw [h3] at e
        have e1 : k = g' := by simpa [Value.ownBlock] using e
        subst e1
        rw [hk] at hg'
        injection hg' with hg'
        injection hg' with _ ht
        exact h1 ht
    rw [heap_setCell_other _ _ _ _ hkg, hg.block k (by simp [World.setCell]; omega) hkr, Below.heap_alloc _ _ _ (by simp [World.setCell]; exact hkl), heap_setCell_other _ _ _ _ hkg]
    exact hk
theorem facts2 {w : World} {g : Nat} {v u : Value} {t : TypeId} (h : w.heap[g]? = some (.cells #[v, u] t (0, 0))) : w.cell? ⟨g, 0, none⟩ = some v ∧ w.cell? ⟨g, 1, none⟩ = some u ∧ w.frozen? ⟨g, 0, none⟩ = false ∧ w.frozen? ⟨g, 1, none⟩ = false :=
  ⟨cell_of_row w g 0 _ _ _ h, cell_of_row w g 1 _ _ _ h, frozen_of_row w g 0 _ _ h, frozen_of_row w g 1 _ _ h⟩
/-- The new block of the bytes that are appended. -/
theorem SL.new {W : World} {k : Nat} {l : List Int} {e : TypeId} (cs : Array Value) (hW : W.heap.size = k) (hcs : cs.toList = l.map u8) : SL (W.alloc (.cells cs e)) (k + 1) 1 (some ⟨k, 0, none⟩) l.length (l.map u8) := by
  subst hW
  rw [← hcs]
  exact SL.of_block (heap_alloc_new W _) (by rw [← Array.length_toList, hcs, List.length_map, Nat.mul_one]) (Nat.lt_succ_self _)

set_option maxHeartbeats 400000 in
theorem newPacker_any (w : World) : Calls Try.prog 32 #[] w fun e w' => e = .returned (.pointer (some ⟨w.heap.size, 0, none⟩)) ∧ PK w' w.heap.size w.heap.size none 0 0 [] false ∧ Below w.heap.size w w' := by
  go_enter Try.func32, Try.ntmps32
  go_wp2
  go_ret
  exact ⟨rfl, ⟨heap_alloc_new w _, World.ownsRow_nil _ _ _ _, Nat.le_refl _, fun x hx => by cases hx⟩, (Below.refl _ _).alloc (Nat.le_refl _) _⟩

/-- The numbers, each in so many bytes. -/
def packs (size : Nat) (l : List Int) : List Int := l.flatMap (nb size)
theorem packs_ok (size : Nat) (l : List Int) : okBytes (packs size l) := by
  intro x hx
  obtain ⟨n, _, hx⟩ := List.mem_flatMap.1 hx
  exact nb_ok n size x hx
theorem packs_len (size : Nat) (l : List Int) : (packs size l).length = size * l.length := by
  unfold packs
  induction l with
  | nil => simp
  | cons x l ih => rw [List.flatMap_cons, List.length_append, nb_len, ih, List.length_cons, Nat.mul_add, Nat.mul_one, Nat.add_comm]
theorem packs_succ (size : Nat) (l : List Int) (i : Nat) (hi : i < l.length) : packs size (l.take (i + 1)) = packs size (l.take i) ++ nb size (l[i]?.getD 0) := by
  unfold packs
  rw [List.take_succ_eq_append_getElem hi, List.getElem?_eq_getElem hi, List.flatMap_append]
  simp
theorem all_succ_fits (size : Nat) (l : List Int) (i : Nat) (hi : i < l.length) (bad : Bool) : (bad || !(l.take (i + 1)).all (fits size)) = ((bad || !(l.take i).all (fits size)) || !fits size (l[i]?.getD 0)) := by
  rw [List.take_succ_eq_append_getElem hi, List.getElem?_eq_getElem hi, List.all_append]
  simp [Bool.or_assoc]
theorem nb1_eq (X : List Int) (N : Int) : X ++ nb 1 N = X ++ [N % 256] := by simp [nb]
theorem nb2_eq (X : List Int) (N : Int) : X ++ nb 2 N = X ++ [N / 256 % 256] ++ [N % 256] := by simp [nb]
theorem nb4_eq (X : List Int) (N : Int) : X ++ nb 4 N = X ++ [N / 16777216 % 256, N / 65536 % 256] ++ [N / 256 % 256] ++ [N % 256] := by simp [nb]
theorem nb8_eq (X : List Int) (N : Int) : X ++ nb 8 N = X ++ [N / 72057594037927936 % 256, N / 281474976710656 % 256, N / 1099511627776 % 256, N / 4294967296 % 256] ++ [N / 16777216 % 256, N / 65536 % 256] ++ [N / 256 % 256] ++ [N % 256] := by simp [nb]
theorem bytes_ok (l : List Int) (h : ∀ x ∈ l, 0 ≤ x ∧ x < 256) : okBytes l := h




end Go.Proofs.Ytbgfccfhiocomaa
