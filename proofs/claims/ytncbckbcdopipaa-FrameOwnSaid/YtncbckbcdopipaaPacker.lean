/- frame.Packer by contract: NewPacker, put of each size, Byte, Short, Word, Long, Bytes. -/
import Derived.Test.YtncbckbcdopipaaNumber
namespace Go.Proofs.Ytncbckbcdopipaa
open Go.RowKit

/-- Does a number fit in so many bytes? -/
def fits (size : Nat) (n : Int) : Bool := if size = 8 then decide (0 ≤ n ∧ n ≤ 4611686018427387903) else decide (0 ≤ n ∧ n < 256 ^ size)

/-- A packer at block g: its bytes, and whether a number did not fit. -/
structure PK (w : World) (g base : Nat) (A : Option Addr) (n C : Nat) (bs : List Int) (bad : Bool) : Prop where
  blk : w.heap[g]? = some (.cells #[.slice A n C, .bool bad] 80 (0, 0))
  own : w.ownsRow base 5 1 (.slice A n C) n (bs.map u8)
  gb : base ≤ g
  ok : okBytes bs

section
variable {w w' : World} {g base n C : Nat} {A : Option Addr} {bs : List Int} {bad : Bool}
theorem PK.len (h : PK w g base A n C bs bad) : bs.length = n := by have := h.own.1; simpa using this
theorem PK.lt (h : PK w g base A n C bs bad) : g < w.heap.size := (Array.getElem?_eq_some_iff.1 h.blk).1
theorem PK.ne (h : PK w g base A n C bs bad) : (Value.slice A n C).ownBlock ≠ some g := by
  rcases h.own.2 with ⟨h1, _⟩ | ⟨g', cap, cur, h1, _, hg, _⟩
  · rw [h1]; simp [Value.ownBlock]
  · rw [h1]
    intro e
    have e1 : g' = g := by simpa [Value.ownBlock] using e
    subst e1
    rw [h.blk] at hg
    injection hg with hg
    injection hg with _ ht
    exact absurd ht (by decide)
theorem PK.facts (h : PK w g base A n C bs bad) : w.cell? ⟨g, 0, none⟩ = some (.slice A n C) ∧ w.cell? ⟨g, 1, none⟩ = some (.bool bad) ∧ w.frozen? ⟨g, 0, none⟩ = false ∧ w.frozen? ⟨g, 1, none⟩ = false :=
  ⟨cell_of_row w g 0 _ _ _ h.blk, cell_of_row w g 1 _ _ _ h.blk, frozen_of_row w g 0 _ _ h.blk, frozen_of_row w g 1 _ _ h.blk⟩
theorem PK.setBad (h : PK w g base A n C bs bad) (b : Bool) : PK (w.setCell ⟨g, 1, none⟩ (.bool b)) g base A n C bs b :=
  ⟨heap_setCell_same _ _ _ _ _ _ h.blk, h.own.kept (row := some g) ⟨rfl, rfl, rfl, by simp [World.setCell], fun k _ hk => heap_setCell_other _ _ _ _ (fun e => hk (by rw [e]))⟩ (.inr h.ne), h.gb, h.ok⟩
theorem PK.alloc (h : PK w g base A n C bs bad) (o : Obj) : PK (w.alloc o) g base A n C bs bad :=
  ⟨(Below.heap_alloc w o g h.lt).trans h.blk, h.own.alloc o, h.gb, h.ok⟩
theorem PK.below {B : Nat} (h : PK w g base A n C bs bad) (hb : Below B w w') (hB : w.heap.size ≤ B) : PK w' g base A n C bs bad :=
  ⟨(hb.block g (by have := h.lt; omega)).trans h.blk, own_keep h.own fun b hh => hb.block b (by omega), h.gb, h.ok⟩
/-- Behind an append: the packer's own block is as it was. -/
theorem PK.grown (h : PK w g base A n C bs bad) (hg : w.grownBy w' (Value.slice A n C).ownBlock) : w'.heap[g]? = some (.cells #[.slice A n C, .bool bad] 80 (0, 0)) :=
  (hg.block g h.lt (fun e => h.ne e.symm)).trans h.blk
/-- Behind the store of what was appended. -/
theorem PK.set0 {A' : Option Addr} {n' C' : Nat} {bs' : List Int} {v : Value} (hb : w.heap[g]? = some (.cells #[v, .bool bad] 80 (0, 0))) (ho : w.ownsRow base 5 1 (.slice A' n' C') n' (bs'.map u8)) (gb : base ≤ g) (ok : okBytes bs') :
    PK (w.setCell ⟨g, 0, none⟩ (.slice A' n' C')) g base A' n' C' bs' bad := by
  refine ⟨heap_setCell_same _ _ _ _ _ _ hb, ?_, gb, ok⟩
  refine ho.kept (row := some g) ⟨rfl, rfl, rfl, by simp [World.setCell], fun k _ hk => heap_setCell_other _ _ _ _ (fun e => hk (by rw [e]))⟩ ?_
  rcases ho.2 with ⟨h1, _⟩ | ⟨g', cap, cur, h1, _, hg, _⟩
  · rw [h1]; exact .inl rfl
  · rw [h1]
    refine .inr fun e => ?_
    have e1 : g' = g := by simpa [Value.ownBlock] using e
    subst e1
    rw [hb] at hg
    injection hg with hg
    injection hg with _ ht
    exact absurd ht (by decide)
end

/-- One store of 'bad', one append, one store of the bytes. -/
theorem PK.step {w w1 : World} {g base n C : Nat} {A : Option Addr} {bs : List Int} {bad b : Bool} {o : Obj} {A' : Option Addr} {n' C' : Nat} {bs' : List Int} (h : PK w g base A n C bs bad)
    (hg : ((w.setCell ⟨g, 1, none⟩ (.bool b)).alloc o).grownBy w1 (Value.slice A n C).ownBlock) (ho : w1.ownsRow base 5 1 (.slice A' n' C') n' (bs'.map u8)) (ok : okBytes bs') :
    PK (w1.setCell ⟨g, 0, none⟩ (.slice A' n' C')) g base A' n' C' bs' b ∧ Below base w (w1.setCell ⟨g, 0, none⟩ (.slice A' n' C')) ∧
    (∀ (k : Nat) (cs : Array Value) (t : TypeId) (fr : Nat × Nat), w.heap[k]? = some (.cells cs t fr) → t ≠ 5 → t ≠ 80 → (w1.setCell ⟨g, 0, none⟩ (.slice A' n' C')).heap[k]? = some (.cells cs t fr)) := by
  have p1 := (h.setBad b).alloc o
  have hb := p1.grown hg
  have hlt := h.lt
  have hgb := h.gb
  refine ⟨PK.set0 hb ho h.gb ok, ?_, ?_⟩
  · refine Below.setCell (Below.grown ((((Below.refl base w).setCell (by exact h.gb) _)).alloc ?_ _) hg ?_ (own_base p1.own)) (by exact h.gb) _
    · simp [World.setCell]; omega
    · simp [World.setCell]; omega
  · intro k cs t fr hk h1 h2
    have hkl : k < w.heap.size := (Array.getElem?_eq_some_iff.1 hk).1
    have hkg : k ≠ g := fun e => by
      subst e
      rw [h.blk] at hk
      injection hk with hk
      injection hk with _ ht
      exact h2 ht.symm
    have hkr : some k ≠ (Value.slice A n C).ownBlock := fun e => by
      rcases h.own.2 with ⟨h3, _⟩ | ⟨g', cap, cur, h3, _, hg', _⟩
      · rw [h3] at e; simp [Value.ownBlock] at e
      · rw [h3] at e
        have e1 : k = g' := by simpa [Value.ownBlock] using e
        subst e1
        rw [hk] at hg'
        injection hg' with hg'
        injection hg' with _ ht
        exact h1 ht
    rw [heap_setCell_other _ _ _ _ hkg, hg.block k (by simp [World.setCell]; omega) hkr, Below.heap_alloc _ _ _ (by simp [World.setCell]; exact hkl), heap_setCell_other _ _ _ _ hkg]
    exact hk
theorem facts2 {w : World} {g : Nat} {v u : Value} {t : TypeId} (h : w.heap[g]? = some (.cells #[v, u] t (0, 0))) : w.cell? ⟨g, 0, none⟩ = some v ∧ w.cell? ⟨g, 1, none⟩ = some u ∧ w.frozen? ⟨g, 0, none⟩ = false ∧ w.frozen? ⟨g, 1, none⟩ = false :=
  ⟨cell_of_row w g 0 _ _ _ h, cell_of_row w g 1 _ _ _ h, frozen_of_row w g 0 _ _ h, frozen_of_row w g 1 _ _ h⟩
/-- The new block of the bytes that are appended. -/
theorem SL.new {W : World} {k : Nat} {l : List Int} {e : TypeId} (cs : Array Value) (hW : W.heap.size = k) (hcs : cs.toList = l.map u8) : SL (W.alloc (.cells cs e)) (k + 1) 1 (some ⟨k, 0, none⟩) l.length (l.map u8) := by
  subst hW
  rw [← hcs]
  exact SL.of_block (heap_alloc_new W _) (by rw [← Array.length_toList, hcs, List.length_map, Nat.mul_one]) (Nat.lt_succ_self _)

set_option maxHeartbeats 400000 in
theorem newPacker_any (w : World) : Calls Try.prog 27 #[] w fun e w' => e = .returned (.pointer (some ⟨w.heap.size, 0, none⟩)) ∧ PK w' w.heap.size w.heap.size none 0 0 [] false ∧ Below w.heap.size w w' := by
  go_enter Try.func27, Try.ntmps27
  go_wp2
  go_ret
  exact ⟨rfl, ⟨heap_alloc_new w _, World.ownsRow_nil _ _ _ _, Nat.le_refl _, fun x hx => by cases hx⟩, (Below.refl _ _).alloc (Nat.le_refl _) _⟩

/-- The numbers, each in so many bytes. -/
def packs (size : Nat) (l : List Int) : List Int := l.flatMap (nb size)
theorem packs_ok (size : Nat) (l : List Int) : okBytes (packs size l) := by
  intro x hx
  obtain ⟨n, _, hx⟩ := List.mem_flatMap.1 hx
  exact nb_ok n size x hx
theorem packs_len (size : Nat) (l : List Int) : (packs size l).length = size * l.length := by
  unfold packs
  induction l with
  | nil => simp
  | cons x l ih => rw [List.flatMap_cons, List.length_append, nb_len, ih, List.length_cons, Nat.mul_add, Nat.mul_one, Nat.add_comm]
theorem packs_succ (size : Nat) (l : List Int) (i : Nat) (hi : i < l.length) : packs size (l.take (i + 1)) = packs size (l.take i) ++ nb size (l[i]?.getD 0) := by
  unfold packs
  rw [List.take_succ_eq_append_getElem hi, List.getElem?_eq_getElem hi, List.flatMap_append]
  simp
theorem all_succ_fits (size : Nat) (l : List Int) (i : Nat) (hi : i < l.length) (bad : Bool) : (bad || !(l.take (i + 1)).all (fits size)) = ((bad || !(l.take i).all (fits size)) || !fits size (l[i]?.getD 0)) := by
  rw [List.take_succ_eq_append_getElem hi, List.getElem?_eq_getElem hi, List.all_append]
  simp [Bool.or_assoc]
theorem nb1_eq (X : List Int) (N : Int) : X ++ nb 1 N = X ++ [N % 256] := by simp [nb]
theorem nb2_eq (X : List Int) (N : Int) : X ++ nb 2 N = X ++ [N / 256 % 256] ++ [N % 256] := by simp [nb]
theorem nb4_eq (X : List Int) (N : Int) : X ++ nb 4 N = X ++ [N / 16777216 % 256, N / 65536 % 256] ++ [N / 256 % 256] ++ [N % 256] := by simp [nb]
theorem nb8_eq (X : List Int) (N : Int) : X ++ nb 8 N = X ++ [N / 72057594037927936 % 256, N / 281474976710656 % 256, N / 1099511627776 % 256, N / 4294967296 % 256] ++ [N / 16777216 % 256, N / 65536 % 256] ++ [N / 256 % 256] ++ [N % 256] := by simp [nb]
theorem bytes_ok (l : List Int) (h : ∀ x ∈ l, 0 ≤ x ∧ x < 256) : okBytes l := h

set_option maxRecDepth 20000 in
set_option maxHeartbeats 2000000 in
/-- put, 1 byte a number: of numbers in a block of their own. -/
theorem put1_any (g base : Nat) (A : Option Addr) (n C : Nat) (bs : List Int) (bad : Bool) (k m cn : Nat) (l : List Int) (fr : Nat × Nat) (w : World) (hp : PK w g base A n C bs bad) (hnum : w.heap[k]? = some (.cells (l.map i64v).toArray 3 fr)) (hl : l.length = m) (hI : ∀ x ∈ l, I64 x) (hsz : n + 8 * m ≤ 1000000000000) :
    Calls Try.prog 44 #[.pointer (some ⟨g, 0, none⟩), .int .i64 1, .slice (some ⟨k, 0, none⟩) m cn] w fun e w' => e = .returned (.pointer (some ⟨g, 0, none⟩)) ∧ (∃ A' n' C', PK w' g base A' n' C' (bs ++ packs 1 l) (bad || !l.all (fits 1))) ∧ Below base w w' := by
  have hmb : m ≤ 1000000000000 := by omega
  go_enter Try.func44, Try.ntmps44
  go_wp2_with fail
  go_loopw [11] (fun i wr => ∃ (q n : Nat) (A : Option Addr) (C : Nat), q ≤ m ∧ i = .int .i64 q ∧ n + 8 * (m - q) ≤ 1000000000000 ∧ PK wr g base A n C (bs ++ packs 1 (l.take q)) (bad || !(l.take q).all (fits 1)) ∧ wr.heap[k]? = some (.cells (l.map i64v).toArray 3 fr) ∧ Below base w wr) (fun i _ => m - (intOf i).toNat)
  case atStart => exact ⟨0, n, A, C, Nat.zero_le _, rfl, by omega, by simpa [packs] using hp, hnum, Below.refl _ _⟩
  case round =>
    clear hp hnum hsz A n C
    obtain ⟨q, n, A, C, hq, rfl, hsz, pk0, hnum, hb⟩ := hrel
    by_cases hlt : q < m
    · have hc : wr.cell? ⟨k, q, none⟩ = some (.int .i64 (l[q]?.getD 0)) := by
        rw [cell_of_row _ _ _ _ _ _ hnum, List.getElem?_toArray, List.getElem?_map, List.getElem?_eq_getElem (by omega)]; rfl
      have hN := hI (l[q]?.getD 0) (by rw [List.getElem?_eq_getElem (by omega)]; exact List.getElem_mem _)
      have HP := mkHid (packs_succ 1 l q (by omega))
      have HA := mkHid (all_succ_fits 1 l q (by omega) bad)
      have HHL := mkHid hl
      clear hl hI
      generalize l[q]?.getD 0 = N at *
      generalize hbad0 : (bad || !(l.take q).all (fits 1)) = bad0 at *
      have HBD := mkHid hbad0
      clear hbad0
      obtain ⟨hN1, hN2⟩ := hN
      cases bad0 with
      | true =>
        have PKS1 := mkHid ((pk0.setBad true).alloc (.cells #[.int .u8 (N % 256)] 5))
        obtain ⟨c0, c1, f0, f1⟩ := pk0.facts
        have hlt1 := pk0.lt
        have hgb1 := pk0.gb
        have hln1 := pk0.len
        have HLN1 := mkHid hln1
        clear hln1
        go_upto_region 16 with (at_builtin; refine wpList_app _ rfl (.tmp 149) (.tmp 152) _ rfl base el_u8 A n C _ rfl PKS1.out.own (wr.heap.size + 1) (some ⟨wr.heap.size, 0, none⟩) 1 1 ([N % 256].map Go.Proofs.Ytncbckbcdopipaa.u8) rfl (SL.new _ (by simp [World.setCell]) rfl) (u8_cells _) (by unfold maxLen; omega) (by omega) (by simp [World.setCell]; omega) ?_; intro A1 C1 x1 hown1 hg1 hat1; clear hat1; obtain ⟨d0, d1, e0, e1⟩ := facts2 (PKS1.out.grown hg1))
        rw [← List.map_append] at hown1
        obtain ⟨pk1, hB1, hK1⟩ := pk0.step hg1 hown1 (pk0.ok.append (bytes_ok _ (by intro x hx; simp only [List.mem_cons, List.not_mem_nil, or_false] at hx; omega)))
        have hn1 := hK1 _ _ _ _ hnum (by decide) (by decide)
        generalize hv1 : World.setCell x1 _ _ = v1 at *
        clear hv1 hg1 hK1 hown1 d0 d1 e0 e1 c0 c1 f0 f1 PKS1
        go_wp2_with fail
        go_roundw
        case rel =>
          have hfin : PK v1 g base A1 (n + 1) C1 (bs ++ packs 1 (l.take (q + 1))) (bad || !(l.take (q + 1)).all (fits 1)) := by
            rw [HP.out, HA.out, ← List.append_assoc, nb1_eq, Bool.true_or]
            exact pk1
          exact ⟨q + 1, (n + 1), A1, C1, by omega, by go_num, by omega, hfin, hn1, hb.trans hB1⟩
        case measure => simp [intOf]; omega
      | false =>
        by_cases hneg : N < 0
        · have HFT := mkHid (show fits 1 N = false by unfold fits; rw [if_neg (by decide)]; exact decide_eq_false (by omega))
          have PKS1 := mkHid ((pk0.setBad true).alloc (.cells #[.int .u8 (N % 256)] 5))
          obtain ⟨c0, c1, f0, f1⟩ := pk0.facts
          have hlt1 := pk0.lt
          have hgb1 := pk0.gb
          have hln1 := pk0.len
          have HLN1 := mkHid hln1
          clear hln1
          go_upto_region 16 with (at_builtin; refine wpList_app _ rfl (.tmp 149) (.tmp 152) _ rfl base el_u8 A n C _ rfl PKS1.out.own (wr.heap.size + 1) (some ⟨wr.heap.size, 0, none⟩) 1 1 ([N % 256].map Go.Proofs.Ytncbckbcdopipaa.u8) rfl (SL.new _ (by simp [World.setCell]) rfl) (u8_cells _) (by unfold maxLen; omega) (by omega) (by simp [World.setCell]; omega) ?_; intro A1 C1 x1 hown1 hg1 hat1; clear hat1; obtain ⟨d0, d1, e0, e1⟩ := facts2 (PKS1.out.grown hg1))
          rw [← List.map_append] at hown1
          obtain ⟨pk1, hB1, hK1⟩ := pk0.step hg1 hown1 (pk0.ok.append (bytes_ok _ (by intro x hx; simp only [List.mem_cons, List.not_mem_nil, or_false] at hx; omega)))
          have hn1 := hK1 _ _ _ _ hnum (by decide) (by decide)
          generalize hv1 : World.setCell x1 _ _ = v1 at *
          clear hv1 hg1 hK1 hown1 d0 d1 e0 e1 c0 c1 f0 f1 PKS1
          go_wp2_with fail
          go_roundw
          case rel =>
            have hfin : PK v1 g base A1 (n + 1) C1 (bs ++ packs 1 (l.take (q + 1))) (bad || !(l.take (q + 1)).all (fits 1)) := by
              rw [HP.out, HA.out, ← List.append_assoc, nb1_eq, HFT.out, show (false || !false) = true from rfl]
              exact pk1
            exact ⟨q + 1, (n + 1), A1, C1, by omega, by go_num, by omega, hfin, hn1, hb.trans hB1⟩
          case measure => simp [intOf]; omega
        by_cases hbig : 256 ≤ N
        · have HFT := mkHid (show fits 1 N = false by unfold fits; rw [if_neg (by decide)]; exact decide_eq_false (fun h => absurd h.2 (by rw [show (256 : Int) ^ 1 = 256 from rfl]; omega)))
          have hsh : (N / 256 != 0) = true := by rw [bne_iff_ne]; omega
          have PKS1 := mkHid ((pk0.setBad true).alloc (.cells #[.int .u8 (N % 256)] 5))
          obtain ⟨c0, c1, f0, f1⟩ := pk0.facts
          have hlt1 := pk0.lt
          have hgb1 := pk0.gb
          have hln1 := pk0.len
          have HLN1 := mkHid hln1
          clear hln1
          go_upto_region 16 with (at_builtin; refine wpList_app _ rfl (.tmp 149) (.tmp 152) _ rfl base el_u8 A n C _ rfl PKS1.out.own (wr.heap.size + 1) (some ⟨wr.heap.size, 0, none⟩) 1 1 ([N % 256].map Go.Proofs.Ytncbckbcdopipaa.u8) rfl (SL.new _ (by simp [World.setCell]) rfl) (u8_cells _) (by unfold maxLen; omega) (by omega) (by simp [World.setCell]; omega) ?_; intro A1 C1 x1 hown1 hg1 hat1; clear hat1; obtain ⟨d0, d1, e0, e1⟩ := facts2 (PKS1.out.grown hg1))
          rw [← List.map_append] at hown1
          obtain ⟨pk1, hB1, hK1⟩ := pk0.step hg1 hown1 (pk0.ok.append (bytes_ok _ (by intro x hx; simp only [List.mem_cons, List.not_mem_nil, or_false] at hx; omega)))
          have hn1 := hK1 _ _ _ _ hnum (by decide) (by decide)
          generalize hv1 : World.setCell x1 _ _ = v1 at *
          clear hv1 hg1 hK1 hown1 d0 d1 e0 e1 c0 c1 f0 f1 PKS1
          go_wp2_with fail
          go_roundw
          case rel =>
            have hfin : PK v1 g base A1 (n + 1) C1 (bs ++ packs 1 (l.take (q + 1))) (bad || !(l.take (q + 1)).all (fits 1)) := by
              rw [HP.out, HA.out, ← List.append_assoc, nb1_eq, HFT.out, show (false || !false) = true from rfl]
              exact pk1
            exact ⟨q + 1, (n + 1), A1, C1, by omega, by go_num, by omega, hfin, hn1, hb.trans hB1⟩
          case measure => simp [intOf]; omega
        have HFT := mkHid (show fits 1 N = true by unfold fits; rw [if_neg (by decide)]; exact decide_eq_true ⟨by omega, by rw [show (256 : Int) ^ 1 = 256 from rfl]; omega⟩)
        have hsh : (N / 256 != 0) = false := by rw [bne_eq_false_iff_eq]; omega
        have HBG := mkHid hbig
        clear hbig
        have PKS1 := mkHid ((pk0.setBad false).alloc (.cells #[.int .u8 (N % 256)] 5))
        obtain ⟨c0, c1, f0, f1⟩ := pk0.facts
        have hlt1 := pk0.lt
        have hgb1 := pk0.gb
        have hln1 := pk0.len
        have HLN1 := mkHid hln1
        clear hln1
        go_upto_region 16 with (at_builtin; refine wpList_app _ rfl (.tmp 149) (.tmp 152) _ rfl base el_u8 A n C _ rfl PKS1.out.own (wr.heap.size + 1) (some ⟨wr.heap.size, 0, none⟩) 1 1 ([N % 256].map Go.Proofs.Ytncbckbcdopipaa.u8) rfl (SL.new _ (by simp [World.setCell]) rfl) (u8_cells _) (by unfold maxLen; omega) (by omega) (by simp [World.setCell]; omega) ?_; intro A1 C1 x1 hown1 hg1 hat1; clear hat1; obtain ⟨d0, d1, e0, e1⟩ := facts2 (PKS1.out.grown hg1))
        rw [← List.map_append] at hown1
        obtain ⟨pk1, hB1, hK1⟩ := pk0.step hg1 hown1 (pk0.ok.append (bytes_ok _ (by intro x hx; simp only [List.mem_cons, List.not_mem_nil, or_false] at hx; omega)))
        have hn1 := hK1 _ _ _ _ hnum (by decide) (by decide)
        generalize hv1 : World.setCell x1 _ _ = v1 at *
        clear hv1 hg1 hK1 hown1 d0 d1 e0 e1 c0 c1 f0 f1 PKS1
        go_wp2_with fail
        go_roundw
        case rel =>
          have hfin : PK v1 g base A1 (n + 1) C1 (bs ++ packs 1 (l.take (q + 1))) (bad || !(l.take (q + 1)).all (fits 1)) := by
            rw [HP.out, HA.out, ← List.append_assoc, nb1_eq, HFT.out, show (false || !true) = false from rfl]
            exact pk1
          exact ⟨q + 1, (n + 1), A1, C1, by omega, by go_num, by omega, hfin, hn1, hb.trans hB1⟩
        case measure => simp [intOf]; omega
    · obtain rfl : q = m := by omega
      rw [List.take_of_length_le (by omega)] at pk0
      go_wp2_with fail
      go_ret
      exact ⟨rfl, ⟨A, n, C, pk0⟩, hb⟩

set_option maxRecDepth 20000 in
set_option maxHeartbeats 2000000 in
/-- put, 2 bytes a number: of numbers in a block of their own. -/
theorem put2_any (g base : Nat) (A : Option Addr) (n C : Nat) (bs : List Int) (bad : Bool) (k m cn : Nat) (l : List Int) (fr : Nat × Nat) (w : World) (hp : PK w g base A n C bs bad) (hnum : w.heap[k]? = some (.cells (l.map i64v).toArray 3 fr)) (hl : l.length = m) (hI : ∀ x ∈ l, I64 x) (hsz : n + 8 * m ≤ 1000000000000) :
    Calls Try.prog 44 #[.pointer (some ⟨g, 0, none⟩), .int .i64 2, .slice (some ⟨k, 0, none⟩) m cn] w fun e w' => e = .returned (.pointer (some ⟨g, 0, none⟩)) ∧ (∃ A' n' C', PK w' g base A' n' C' (bs ++ packs 2 l) (bad || !l.all (fits 2))) ∧ Below base w w' := by
  have hmb : m ≤ 1000000000000 := by omega
  go_enter Try.func44, Try.ntmps44
  go_wp2_with fail
  go_loopw [11] (fun i wr => ∃ (q n : Nat) (A : Option Addr) (C : Nat), q ≤ m ∧ i = .int .i64 q ∧ n + 8 * (m - q) ≤ 1000000000000 ∧ PK wr g base A n C (bs ++ packs 2 (l.take q)) (bad || !(l.take q).all (fits 2)) ∧ wr.heap[k]? = some (.cells (l.map i64v).toArray 3 fr) ∧ Below base w wr) (fun i _ => m - (intOf i).toNat)
  case atStart => exact ⟨0, n, A, C, Nat.zero_le _, rfl, by omega, by simpa [packs] using hp, hnum, Below.refl _ _⟩
  case round =>
    clear hp hnum hsz A n C
    obtain ⟨q, n, A, C, hq, rfl, hsz, pk0, hnum, hb⟩ := hrel
    by_cases hlt : q < m
    · have hc : wr.cell? ⟨k, q, none⟩ = some (.int .i64 (l[q]?.getD 0)) := by
        rw [cell_of_row _ _ _ _ _ _ hnum, List.getElem?_toArray, List.getElem?_map, List.getElem?_eq_getElem (by omega)]; rfl
      have hN := hI (l[q]?.getD 0) (by rw [List.getElem?_eq_getElem (by omega)]; exact List.getElem_mem _)
      have HP := mkHid (packs_succ 2 l q (by omega))
      have HA := mkHid (all_succ_fits 2 l q (by omega) bad)
      have HHL := mkHid hl
      clear hl hI
      generalize l[q]?.getD 0 = N at *
      generalize hbad0 : (bad || !(l.take q).all (fits 2)) = bad0 at *
      have HBD := mkHid hbad0
      clear hbad0
      obtain ⟨hN1, hN2⟩ := hN
      cases bad0 with
      | true =>
        have PKS1 := mkHid ((pk0.setBad true).alloc (.cells #[.int .u8 (N / 256 % 256)] 5))
        obtain ⟨c0, c1, f0, f1⟩ := pk0.facts
        have hlt1 := pk0.lt
        have hgb1 := pk0.gb
        have hln1 := pk0.len
        have HLN1 := mkHid hln1
        clear hln1
        go_upto_region 14 with (at_builtin; refine wpList_app _ rfl (.tmp 117) (.tmp 121) _ rfl base el_u8 A n C _ rfl PKS1.out.own (wr.heap.size + 1) (some ⟨wr.heap.size, 0, none⟩) 1 1 ([N / 256 % 256].map Go.Proofs.Ytncbckbcdopipaa.u8) rfl (SL.new _ (by simp [World.setCell]) rfl) (u8_cells _) (by unfold maxLen; omega) (by omega) (by simp [World.setCell]; omega) ?_; intro A1 C1 x1 hown1 hg1 hat1; clear hat1; obtain ⟨d0, d1, e0, e1⟩ := facts2 (PKS1.out.grown hg1))
        rw [← List.map_append] at hown1
        obtain ⟨pk1, hB1, hK1⟩ := pk0.step hg1 hown1 (pk0.ok.append (bytes_ok _ (by intro x hx; simp only [List.mem_cons, List.not_mem_nil, or_false] at hx; omega)))
        have hn1 := hK1 _ _ _ _ hnum (by decide) (by decide)
        generalize hv1 : World.setCell x1 _ _ = v1 at *
        clear hv1 hg1 hK1 hown1 d0 d1 e0 e1 c0 c1 f0 f1 PKS1
        have PKS2 := mkHid ((pk1.setBad true).alloc (.cells #[.int .u8 (N % 256)] 5))
        obtain ⟨c0, c1, f0, f1⟩ := pk1.facts
        have hlt2 := pk1.lt
        have hgb2 := pk1.gb
        have hln2 := pk1.len
        have HLN2 := mkHid hln2
        clear hln2
        go_upto_region 16 with (at_builtin; refine wpList_app _ rfl (.tmp 149) (.tmp 152) _ rfl base el_u8 A1 (n + 1) C1 _ rfl PKS2.out.own (v1.heap.size + 1) (some ⟨v1.heap.size, 0, none⟩) 1 1 ([N % 256].map Go.Proofs.Ytncbckbcdopipaa.u8) rfl (SL.new _ (by simp [World.setCell]) rfl) (u8_cells _) (by unfold maxLen; omega) (by omega) (by simp [World.setCell]; omega) ?_; intro A2 C2 x2 hown2 hg2 hat2; clear hat2; obtain ⟨d0, d1, e0, e1⟩ := facts2 (PKS2.out.grown hg2))
        rw [← List.map_append] at hown2
        obtain ⟨pk2, hB2, hK2⟩ := pk1.step hg2 hown2 (pk1.ok.append (bytes_ok _ (by intro x hx; simp only [List.mem_cons, List.not_mem_nil, or_false] at hx; omega)))
        have hn2 := hK2 _ _ _ _ hn1 (by decide) (by decide)
        generalize hv2 : World.setCell x2 _ _ = v2 at *
        clear hv2 hg2 hK2 hown2 d0 d1 e0 e1 c0 c1 f0 f1 PKS2
        go_wp2_with fail
        go_roundw
        case rel =>
          have hfin : PK v2 g base A2 ((n + 1) + 1) C2 (bs ++ packs 2 (l.take (q + 1))) (bad || !(l.take (q + 1)).all (fits 2)) := by
            rw [HP.out, HA.out, ← List.append_assoc, nb2_eq, Bool.true_or]
            exact pk2
          exact ⟨q + 1, ((n + 1) + 1), A2, C2, by omega, by go_num, by omega, hfin, hn2, hb.trans (hB1.trans hB2)⟩
        case measure => simp [intOf]; omega
      | false =>
        by_cases hneg : N < 0
        · have HFT := mkHid (show fits 2 N = false by unfold fits; rw [if_neg (by decide)]; exact decide_eq_false (by omega))
          have PKS1 := mkHid ((pk0.setBad true).alloc (.cells #[.int .u8 (N / 256 % 256)] 5))
          obtain ⟨c0, c1, f0, f1⟩ := pk0.facts
          have hlt1 := pk0.lt
          have hgb1 := pk0.gb
          have hln1 := pk0.len
          have HLN1 := mkHid hln1
          clear hln1
          go_upto_region 14 with (at_builtin; refine wpList_app _ rfl (.tmp 117) (.tmp 121) _ rfl base el_u8 A n C _ rfl PKS1.out.own (wr.heap.size + 1) (some ⟨wr.heap.size, 0, none⟩) 1 1 ([N / 256 % 256].map Go.Proofs.Ytncbckbcdopipaa.u8) rfl (SL.new _ (by simp [World.setCell]) rfl) (u8_cells _) (by unfold maxLen; omega) (by omega) (by simp [World.setCell]; omega) ?_; intro A1 C1 x1 hown1 hg1 hat1; clear hat1; obtain ⟨d0, d1, e0, e1⟩ := facts2 (PKS1.out.grown hg1))
          rw [← List.map_append] at hown1
          obtain ⟨pk1, hB1, hK1⟩ := pk0.step hg1 hown1 (pk0.ok.append (bytes_ok _ (by intro x hx; simp only [List.mem_cons, List.not_mem_nil, or_false] at hx; omega)))
          have hn1 := hK1 _ _ _ _ hnum (by decide) (by decide)
          generalize hv1 : World.setCell x1 _ _ = v1 at *
          clear hv1 hg1 hK1 hown1 d0 d1 e0 e1 c0 c1 f0 f1 PKS1
          have PKS2 := mkHid ((pk1.setBad true).alloc (.cells #[.int .u8 (N % 256)] 5))
          obtain ⟨c0, c1, f0, f1⟩ := pk1.facts
          have hlt2 := pk1.lt
          have hgb2 := pk1.gb
          have hln2 := pk1.len
          have HLN2 := mkHid hln2
          clear hln2
          go_upto_region 16 with (at_builtin; refine wpList_app _ rfl (.tmp 149) (.tmp 152) _ rfl base el_u8 A1 (n + 1) C1 _ rfl PKS2.out.own (v1.heap.size + 1) (some ⟨v1.heap.size, 0, none⟩) 1 1 ([N % 256].map Go.Proofs.Ytncbckbcdopipaa.u8) rfl (SL.new _ (by simp [World.setCell]) rfl) (u8_cells _) (by unfold maxLen; omega) (by omega) (by simp [World.setCell]; omega) ?_; intro A2 C2 x2 hown2 hg2 hat2; clear hat2; obtain ⟨d0, d1, e0, e1⟩ := facts2 (PKS2.out.grown hg2))
          rw [← List.map_append] at hown2
          obtain ⟨pk2, hB2, hK2⟩ := pk1.step hg2 hown2 (pk1.ok.append (bytes_ok _ (by intro x hx; simp only [List.mem_cons, List.not_mem_nil, or_false] at hx; omega)))
          have hn2 := hK2 _ _ _ _ hn1 (by decide) (by decide)
          generalize hv2 : World.setCell x2 _ _ = v2 at *
          clear hv2 hg2 hK2 hown2 d0 d1 e0 e1 c0 c1 f0 f1 PKS2
          go_wp2_with fail
          go_roundw
          case rel =>
            have hfin : PK v2 g base A2 ((n + 1) + 1) C2 (bs ++ packs 2 (l.take (q + 1))) (bad || !(l.take (q + 1)).all (fits 2)) := by
              rw [HP.out, HA.out, ← List.append_assoc, nb2_eq, HFT.out, show (false || !false) = true from rfl]
              exact pk2
            exact ⟨q + 1, ((n + 1) + 1), A2, C2, by omega, by go_num, by omega, hfin, hn2, hb.trans (hB1.trans hB2)⟩
          case measure => simp [intOf]; omega
        by_cases hbig : 65536 ≤ N
        · have HFT := mkHid (show fits 2 N = false by unfold fits; rw [if_neg (by decide)]; exact decide_eq_false (fun h => absurd h.2 (by rw [show (256 : Int) ^ 2 = 65536 from rfl]; omega)))
          have hsh : (N / 65536 != 0) = true := by rw [bne_iff_ne]; omega
          have PKS1 := mkHid ((pk0.setBad true).alloc (.cells #[.int .u8 (N / 256 % 256)] 5))
          obtain ⟨c0, c1, f0, f1⟩ := pk0.facts
          have hlt1 := pk0.lt
          have hgb1 := pk0.gb
          have hln1 := pk0.len
          have HLN1 := mkHid hln1
          clear hln1
          go_upto_region 14 with (at_builtin; refine wpList_app _ rfl (.tmp 117) (.tmp 121) _ rfl base el_u8 A n C _ rfl PKS1.out.own (wr.heap.size + 1) (some ⟨wr.heap.size, 0, none⟩) 1 1 ([N / 256 % 256].map Go.Proofs.Ytncbckbcdopipaa.u8) rfl (SL.new _ (by simp [World.setCell]) rfl) (u8_cells _) (by unfold maxLen; omega) (by omega) (by simp [World.setCell]; omega) ?_; intro A1 C1 x1 hown1 hg1 hat1; clear hat1; obtain ⟨d0, d1, e0, e1⟩ := facts2 (PKS1.out.grown hg1))
          rw [← List.map_append] at hown1
          obtain ⟨pk1, hB1, hK1⟩ := pk0.step hg1 hown1 (pk0.ok.append (bytes_ok _ (by intro x hx; simp only [List.mem_cons, List.not_mem_nil, or_false] at hx; omega)))
          have hn1 := hK1 _ _ _ _ hnum (by decide) (by decide)
          generalize hv1 : World.setCell x1 _ _ = v1 at *
          clear hv1 hg1 hK1 hown1 d0 d1 e0 e1 c0 c1 f0 f1 PKS1
          have PKS2 := mkHid ((pk1.setBad true).alloc (.cells #[.int .u8 (N % 256)] 5))
          obtain ⟨c0, c1, f0, f1⟩ := pk1.facts
          have hlt2 := pk1.lt
          have hgb2 := pk1.gb
          have hln2 := pk1.len
          have HLN2 := mkHid hln2
          clear hln2
          go_upto_region 16 with (at_builtin; refine wpList_app _ rfl (.tmp 149) (.tmp 152) _ rfl base el_u8 A1 (n + 1) C1 _ rfl PKS2.out.own (v1.heap.size + 1) (some ⟨v1.heap.size, 0, none⟩) 1 1 ([N % 256].map Go.Proofs.Ytncbckbcdopipaa.u8) rfl (SL.new _ (by simp [World.setCell]) rfl) (u8_cells _) (by unfold maxLen; omega) (by omega) (by simp [World.setCell]; omega) ?_; intro A2 C2 x2 hown2 hg2 hat2; clear hat2; obtain ⟨d0, d1, e0, e1⟩ := facts2 (PKS2.out.grown hg2))
          rw [← List.map_append] at hown2
          obtain ⟨pk2, hB2, hK2⟩ := pk1.step hg2 hown2 (pk1.ok.append (bytes_ok _ (by intro x hx; simp only [List.mem_cons, List.not_mem_nil, or_false] at hx; omega)))
          have hn2 := hK2 _ _ _ _ hn1 (by decide) (by decide)
          generalize hv2 : World.setCell x2 _ _ = v2 at *
          clear hv2 hg2 hK2 hown2 d0 d1 e0 e1 c0 c1 f0 f1 PKS2
          go_wp2_with fail
          go_roundw
          case rel =>
            have hfin : PK v2 g base A2 ((n + 1) + 1) C2 (bs ++ packs 2 (l.take (q + 1))) (bad || !(l.take (q + 1)).all (fits 2)) := by
              rw [HP.out, HA.out, ← List.append_assoc, nb2_eq, HFT.out, show (false || !false) = true from rfl]
              exact pk2
            exact ⟨q + 1, ((n + 1) + 1), A2, C2, by omega, by go_num, by omega, hfin, hn2, hb.trans (hB1.trans hB2)⟩
          case measure => simp [intOf]; omega
        have HFT := mkHid (show fits 2 N = true by unfold fits; rw [if_neg (by decide)]; exact decide_eq_true ⟨by omega, by rw [show (256 : Int) ^ 2 = 65536 from rfl]; omega⟩)
        have hsh : (N / 65536 != 0) = false := by rw [bne_eq_false_iff_eq]; omega
        have HBG := mkHid hbig
        clear hbig
        have PKS1 := mkHid ((pk0.setBad false).alloc (.cells #[.int .u8 (N / 256 % 256)] 5))
        obtain ⟨c0, c1, f0, f1⟩ := pk0.facts
        have hlt1 := pk0.lt
        have hgb1 := pk0.gb
        have hln1 := pk0.len
        have HLN1 := mkHid hln1
        clear hln1
        go_upto_region 14 with (at_builtin; refine wpList_app _ rfl (.tmp 117) (.tmp 121) _ rfl base el_u8 A n C _ rfl PKS1.out.own (wr.heap.size + 1) (some ⟨wr.heap.size, 0, none⟩) 1 1 ([N / 256 % 256].map Go.Proofs.Ytncbckbcdopipaa.u8) rfl (SL.new _ (by simp [World.setCell]) rfl) (u8_cells _) (by unfold maxLen; omega) (by omega) (by simp [World.setCell]; omega) ?_; intro A1 C1 x1 hown1 hg1 hat1; clear hat1; obtain ⟨d0, d1, e0, e1⟩ := facts2 (PKS1.out.grown hg1))
        rw [← List.map_append] at hown1
        obtain ⟨pk1, hB1, hK1⟩ := pk0.step hg1 hown1 (pk0.ok.append (bytes_ok _ (by intro x hx; simp only [List.mem_cons, List.not_mem_nil, or_false] at hx; omega)))
        have hn1 := hK1 _ _ _ _ hnum (by decide) (by decide)
        generalize hv1 : World.setCell x1 _ _ = v1 at *
        clear hv1 hg1 hK1 hown1 d0 d1 e0 e1 c0 c1 f0 f1 PKS1
        have PKS2 := mkHid ((pk1.setBad false).alloc (.cells #[.int .u8 (N % 256)] 5))
        obtain ⟨c0, c1, f0, f1⟩ := pk1.facts
        have hlt2 := pk1.lt
        have hgb2 := pk1.gb
        have hln2 := pk1.len
        have HLN2 := mkHid hln2
        clear hln2
        go_upto_region 16 with (at_builtin; refine wpList_app _ rfl (.tmp 149) (.tmp 152) _ rfl base el_u8 A1 (n + 1) C1 _ rfl PKS2.out.own (v1.heap.size + 1) (some ⟨v1.heap.size, 0, none⟩) 1 1 ([N % 256].map Go.Proofs.Ytncbckbcdopipaa.u8) rfl (SL.new _ (by simp [World.setCell]) rfl) (u8_cells _) (by unfold maxLen; omega) (by omega) (by simp [World.setCell]; omega) ?_; intro A2 C2 x2 hown2 hg2 hat2; clear hat2; obtain ⟨d0, d1, e0, e1⟩ := facts2 (PKS2.out.grown hg2))
        rw [← List.map_append] at hown2
        obtain ⟨pk2, hB2, hK2⟩ := pk1.step hg2 hown2 (pk1.ok.append (bytes_ok _ (by intro x hx; simp only [List.mem_cons, List.not_mem_nil, or_false] at hx; omega)))
        have hn2 := hK2 _ _ _ _ hn1 (by decide) (by decide)
        generalize hv2 : World.setCell x2 _ _ = v2 at *
        clear hv2 hg2 hK2 hown2 d0 d1 e0 e1 c0 c1 f0 f1 PKS2
        go_wp2_with fail
        go_roundw
        case rel =>
          have hfin : PK v2 g base A2 ((n + 1) + 1) C2 (bs ++ packs 2 (l.take (q + 1))) (bad || !(l.take (q + 1)).all (fits 2)) := by
            rw [HP.out, HA.out, ← List.append_assoc, nb2_eq, HFT.out, show (false || !true) = false from rfl]
            exact pk2
          exact ⟨q + 1, ((n + 1) + 1), A2, C2, by omega, by go_num, by omega, hfin, hn2, hb.trans (hB1.trans hB2)⟩
        case measure => simp [intOf]; omega
    · obtain rfl : q = m := by omega
      rw [List.take_of_length_le (by omega)] at pk0
      go_wp2_with fail
      go_ret
      exact ⟨rfl, ⟨A, n, C, pk0⟩, hb⟩

set_option maxRecDepth 20000 in
set_option maxHeartbeats 2000000 in
/-- put, 4 bytes a number: of numbers in a block of their own. -/
theorem put4_any (g base : Nat) (A : Option Addr) (n C : Nat) (bs : List Int) (bad : Bool) (k m cn : Nat) (l : List Int) (fr : Nat × Nat) (w : World) (hp : PK w g base A n C bs bad) (hnum : w.heap[k]? = some (.cells (l.map i64v).toArray 3 fr)) (hl : l.length = m) (hI : ∀ x ∈ l, I64 x) (hsz : n + 8 * m ≤ 1000000000000) :
    Calls Try.prog 44 #[.pointer (some ⟨g, 0, none⟩), .int .i64 4, .slice (some ⟨k, 0, none⟩) m cn] w fun e w' => e = .returned (.pointer (some ⟨g, 0, none⟩)) ∧ (∃ A' n' C', PK w' g base A' n' C' (bs ++ packs 4 l) (bad || !l.all (fits 4))) ∧ Below base w w' := by
  have hmb : m ≤ 1000000000000 := by omega
  go_enter Try.func44, Try.ntmps44
  go_wp2_with fail
  go_loopw [11] (fun i wr => ∃ (q n : Nat) (A : Option Addr) (C : Nat), q ≤ m ∧ i = .int .i64 q ∧ n + 8 * (m - q) ≤ 1000000000000 ∧ PK wr g base A n C (bs ++ packs 4 (l.take q)) (bad || !(l.take q).all (fits 4)) ∧ wr.heap[k]? = some (.cells (l.map i64v).toArray 3 fr) ∧ Below base w wr) (fun i _ => m - (intOf i).toNat)
  case atStart => exact ⟨0, n, A, C, Nat.zero_le _, rfl, by omega, by simpa [packs] using hp, hnum, Below.refl _ _⟩
  case round =>
    clear hp hnum hsz A n C
    obtain ⟨q, n, A, C, hq, rfl, hsz, pk0, hnum, hb⟩ := hrel
    by_cases hlt : q < m
    · have hc : wr.cell? ⟨k, q, none⟩ = some (.int .i64 (l[q]?.getD 0)) := by
        rw [cell_of_row _ _ _ _ _ _ hnum, List.getElem?_toArray, List.getElem?_map, List.getElem?_eq_getElem (by omega)]; rfl
      have hN := hI (l[q]?.getD 0) (by rw [List.getElem?_eq_getElem (by omega)]; exact List.getElem_mem _)
      have HP := mkHid (packs_succ 4 l q (by omega))
      have HA := mkHid (all_succ_fits 4 l q (by omega) bad)
      have HHL := mkHid hl
      clear hl hI
      generalize l[q]?.getD 0 = N at *
      generalize hbad0 : (bad || !(l.take q).all (fits 4)) = bad0 at *
      have HBD := mkHid hbad0
      clear hbad0
      obtain ⟨hN1, hN2⟩ := hN
      cases bad0 with
      | true =>
        have PKS1 := mkHid ((pk0.setBad true).alloc (.cells #[.int .u8 (N / 16777216 % 256), .int .u8 (N / 65536 % 256)] 5))
        obtain ⟨c0, c1, f0, f1⟩ := pk0.facts
        have hlt1 := pk0.lt
        have hgb1 := pk0.gb
        have hln1 := pk0.len
        have HLN1 := mkHid hln1
        clear hln1
        go_upto_region 12 with (at_builtin; refine wpList_app _ rfl (.tmp 82) (.tmp 89) _ rfl base el_u8 A n C _ rfl PKS1.out.own (wr.heap.size + 1) (some ⟨wr.heap.size, 0, none⟩) 2 2 ([N / 16777216 % 256, N / 65536 % 256].map Go.Proofs.Ytncbckbcdopipaa.u8) rfl (SL.new _ (by simp [World.setCell]) rfl) (u8_cells _) (by unfold maxLen; omega) (by omega) (by simp [World.setCell]; omega) ?_; intro A1 C1 x1 hown1 hg1 hat1; clear hat1; obtain ⟨d0, d1, e0, e1⟩ := facts2 (PKS1.out.grown hg1))
        rw [← List.map_append] at hown1
        obtain ⟨pk1, hB1, hK1⟩ := pk0.step hg1 hown1 (pk0.ok.append (bytes_ok _ (by intro x hx; simp only [List.mem_cons, List.not_mem_nil, or_false] at hx; omega)))
        have hn1 := hK1 _ _ _ _ hnum (by decide) (by decide)
        generalize hv1 : World.setCell x1 _ _ = v1 at *
        clear hv1 hg1 hK1 hown1 d0 d1 e0 e1 c0 c1 f0 f1 PKS1
        have PKS2 := mkHid ((pk1.setBad true).alloc (.cells #[.int .u8 (N / 256 % 256)] 5))
        obtain ⟨c0, c1, f0, f1⟩ := pk1.facts
        have hlt2 := pk1.lt
        have hgb2 := pk1.gb
        have hln2 := pk1.len
        have HLN2 := mkHid hln2
        clear hln2
        go_upto_region 14 with (at_builtin; refine wpList_app _ rfl (.tmp 117) (.tmp 121) _ rfl base el_u8 A1 (n + 2) C1 _ rfl PKS2.out.own (v1.heap.size + 1) (some ⟨v1.heap.size, 0, none⟩) 1 1 ([N / 256 % 256].map Go.Proofs.Ytncbckbcdopipaa.u8) rfl (SL.new _ (by simp [World.setCell]) rfl) (u8_cells _) (by unfold maxLen; omega) (by omega) (by simp [World.setCell]; omega) ?_; intro A2 C2 x2 hown2 hg2 hat2; clear hat2; obtain ⟨d0, d1, e0, e1⟩ := facts2 (PKS2.out.grown hg2))
        rw [← List.map_append] at hown2
        obtain ⟨pk2, hB2, hK2⟩ := pk1.step hg2 hown2 (pk1.ok.append (bytes_ok _ (by intro x hx; simp only [List.mem_cons, List.not_mem_nil, or_false] at hx; omega)))
        have hn2 := hK2 _ _ _ _ hn1 (by decide) (by decide)
        generalize hv2 : World.setCell x2 _ _ = v2 at *
        clear hv2 hg2 hK2 hown2 d0 d1 e0 e1 c0 c1 f0 f1 PKS2
        have PKS3 := mkHid ((pk2.setBad true).alloc (.cells #[.int .u8 (N % 256)] 5))
        obtain ⟨c0, c1, f0, f1⟩ := pk2.facts
        have hlt3 := pk2.lt
        have hgb3 := pk2.gb
        have hln3 := pk2.len
        have HLN3 := mkHid hln3
        clear hln3
        go_upto_region 16 with (at_builtin; refine wpList_app _ rfl (.tmp 149) (.tmp 152) _ rfl base el_u8 A2 ((n + 2) + 1) C2 _ rfl PKS3.out.own (v2.heap.size + 1) (some ⟨v2.heap.size, 0, none⟩) 1 1 ([N % 256].map Go.Proofs.Ytncbckbcdopipaa.u8) rfl (SL.new _ (by simp [World.setCell]) rfl) (u8_cells _) (by unfold maxLen; omega) (by omega) (by simp [World.setCell]; omega) ?_; intro A3 C3 x3 hown3 hg3 hat3; clear hat3; obtain ⟨d0, d1, e0, e1⟩ := facts2 (PKS3.out.grown hg3))
        rw [← List.map_append] at hown3
        obtain ⟨pk3, hB3, hK3⟩ := pk2.step hg3 hown3 (pk2.ok.append (bytes_ok _ (by intro x hx; simp only [List.mem_cons, List.not_mem_nil, or_false] at hx; omega)))
        have hn3 := hK3 _ _ _ _ hn2 (by decide) (by decide)
        generalize hv3 : World.setCell x3 _ _ = v3 at *
        clear hv3 hg3 hK3 hown3 d0 d1 e0 e1 c0 c1 f0 f1 PKS3
        go_wp2_with fail
        go_roundw
        case rel =>
          have hfin : PK v3 g base A3 (((n + 2) + 1) + 1) C3 (bs ++ packs 4 (l.take (q + 1))) (bad || !(l.take (q + 1)).all (fits 4)) := by
            rw [HP.out, HA.out, ← List.append_assoc, nb4_eq, Bool.true_or]
            exact pk3
          exact ⟨q + 1, (((n + 2) + 1) + 1), A3, C3, by omega, by go_num, by omega, hfin, hn3, hb.trans ((hB1.trans hB2).trans hB3)⟩
        case measure => simp [intOf]; omega
      | false =>
        by_cases hneg : N < 0
        · have HFT := mkHid (show fits 4 N = false by unfold fits; rw [if_neg (by decide)]; exact decide_eq_false (by omega))
          have PKS1 := mkHid ((pk0.setBad true).alloc (.cells #[.int .u8 (N / 16777216 % 256), .int .u8 (N / 65536 % 256)] 5))
          obtain ⟨c0, c1, f0, f1⟩ := pk0.facts
          have hlt1 := pk0.lt
          have hgb1 := pk0.gb
          have hln1 := pk0.len
          have HLN1 := mkHid hln1
          clear hln1
          go_upto_region 12 with (at_builtin; refine wpList_app _ rfl (.tmp 82) (.tmp 89) _ rfl base el_u8 A n C _ rfl PKS1.out.own (wr.heap.size + 1) (some ⟨wr.heap.size, 0, none⟩) 2 2 ([N / 16777216 % 256, N / 65536 % 256].map Go.Proofs.Ytncbckbcdopipaa.u8) rfl (SL.new _ (by simp [World.setCell]) rfl) (u8_cells _) (by unfold maxLen; omega) (by omega) (by simp [World.setCell]; omega) ?_; intro A1 C1 x1 hown1 hg1 hat1; clear hat1; obtain ⟨d0, d1, e0, e1⟩ := facts2 (PKS1.out.grown hg1))
          rw [← List.map_append] at hown1
          obtain ⟨pk1, hB1, hK1⟩ := pk0.step hg1 hown1 (pk0.ok.append (bytes_ok _ (by intro x hx; simp only [List.mem_cons, List.not_mem_nil, or_false] at hx; omega)))
          have hn1 := hK1 _ _ _ _ hnum (by decide) (by decide)
          generalize hv1 : World.setCell x1 _ _ = v1 at *
          clear hv1 hg1 hK1 hown1 d0 d1 e0 e1 c0 c1 f0 f1 PKS1
          have PKS2 := mkHid ((pk1.setBad true).alloc (.cells #[.int .u8 (N / 256 % 256)] 5))
          obtain ⟨c0, c1, f0, f1⟩ := pk1.facts
          have hlt2 := pk1.lt
          have hgb2 := pk1.gb
          have hln2 := pk1.len
          have HLN2 := mkHid hln2
          clear hln2
          go_upto_region 14 with (at_builtin; refine wpList_app _ rfl (.tmp 117) (.tmp 121) _ rfl base el_u8 A1 (n + 2) C1 _ rfl PKS2.out.own (v1.heap.size + 1) (some ⟨v1.heap.size, 0, none⟩) 1 1 ([N / 256 % 256].map Go.Proofs.Ytncbckbcdopipaa.u8) rfl (SL.new _ (by simp [World.setCell]) rfl) (u8_cells _) (by unfold maxLen; omega) (by omega) (by simp [World.setCell]; omega) ?_; intro A2 C2 x2 hown2 hg2 hat2; clear hat2; obtain ⟨d0, d1, e0, e1⟩ := facts2 (PKS2.out.grown hg2))
          rw [← List.map_append] at hown2
          obtain ⟨pk2, hB2, hK2⟩ := pk1.step hg2 hown2 (pk1.ok.append (bytes_ok _ (by intro x hx; simp only [List.mem_cons, List.not_mem_nil, or_false] at hx; omega)))
          have hn2 := hK2 _ _ _ _ hn1 (by decide) (by decide)
          generalize hv2 : World.setCell x2 _ _ = v2 at *
          clear hv2 hg2 hK2 hown2 d0 d1 e0 e1 c0 c1 f0 f1 PKS2
          have PKS3 := mkHid ((pk2.setBad true).alloc (.cells #[.int .u8 (N % 256)] 5))
          obtain ⟨c0, c1, f0, f1⟩ := pk2.facts
          have hlt3 := pk2.lt
          have hgb3 := pk2.gb
          have hln3 := pk2.len
          have HLN3 := mkHid hln3
          clear hln3
          go_upto_region 16 with (at_builtin; refine wpList_app _ rfl (.tmp 149) (.tmp 152) _ rfl base el_u8 A2 ((n + 2) + 1) C2 _ rfl PKS3.out.own (v2.heap.size + 1) (some ⟨v2.heap.size, 0, none⟩) 1 1 ([N % 256].map Go.Proofs.Ytncbckbcdopipaa.u8) rfl (SL.new _ (by simp [World.setCell]) rfl) (u8_cells _) (by unfold maxLen; omega) (by omega) (by simp [World.setCell]; omega) ?_; intro A3 C3 x3 hown3 hg3 hat3; clear hat3; obtain ⟨d0, d1, e0, e1⟩ := facts2 (PKS3.out.grown hg3))
          rw [← List.map_append] at hown3
          obtain ⟨pk3, hB3, hK3⟩ := pk2.step hg3 hown3 (pk2.ok.append (bytes_ok _ (by intro x hx; simp only [List.mem_cons, List.not_mem_nil, or_false] at hx; omega)))
          have hn3 := hK3 _ _ _ _ hn2 (by decide) (by decide)
          generalize hv3 : World.setCell x3 _ _ = v3 at *
          clear hv3 hg3 hK3 hown3 d0 d1 e0 e1 c0 c1 f0 f1 PKS3
          go_wp2_with fail
          go_roundw
          case rel =>
            have hfin : PK v3 g base A3 (((n + 2) + 1) + 1) C3 (bs ++ packs 4 (l.take (q + 1))) (bad || !(l.take (q + 1)).all (fits 4)) := by
              rw [HP.out, HA.out, ← List.append_assoc, nb4_eq, HFT.out, show (false || !false) = true from rfl]
              exact pk3
            exact ⟨q + 1, (((n + 2) + 1) + 1), A3, C3, by omega, by go_num, by omega, hfin, hn3, hb.trans ((hB1.trans hB2).trans hB3)⟩
          case measure => simp [intOf]; omega
        by_cases hbig : 4294967296 ≤ N
        · have HFT := mkHid (show fits 4 N = false by unfold fits; rw [if_neg (by decide)]; exact decide_eq_false (fun h => absurd h.2 (by rw [show (256 : Int) ^ 4 = 4294967296 from rfl]; omega)))
          have hsh : (N / 4294967296 != 0) = true := by rw [bne_iff_ne]; omega
          have PKS1 := mkHid ((pk0.setBad true).alloc (.cells #[.int .u8 (N / 16777216 % 256), .int .u8 (N / 65536 % 256)] 5))
          obtain ⟨c0, c1, f0, f1⟩ := pk0.facts
          have hlt1 := pk0.lt
          have hgb1 := pk0.gb
          have hln1 := pk0.len
          have HLN1 := mkHid hln1
          clear hln1
          go_upto_region 12 with (at_builtin; refine wpList_app _ rfl (.tmp 82) (.tmp 89) _ rfl base el_u8 A n C _ rfl PKS1.out.own (wr.heap.size + 1) (some ⟨wr.heap.size, 0, none⟩) 2 2 ([N / 16777216 % 256, N / 65536 % 256].map Go.Proofs.Ytncbckbcdopipaa.u8) rfl (SL.new _ (by simp [World.setCell]) rfl) (u8_cells _) (by unfold maxLen; omega) (by omega) (by simp [World.setCell]; omega) ?_; intro A1 C1 x1 hown1 hg1 hat1; clear hat1; obtain ⟨d0, d1, e0, e1⟩ := facts2 (PKS1.out.grown hg1))
          rw [← List.map_append] at hown1
          obtain ⟨pk1, hB1, hK1⟩ := pk0.step hg1 hown1 (pk0.ok.append (bytes_ok _ (by intro x hx; simp only [List.mem_cons, List.not_mem_nil, or_false] at hx; omega)))
          have hn1 := hK1 _ _ _ _ hnum (by decide) (by decide)
          generalize hv1 : World.setCell x1 _ _ = v1 at *
          clear hv1 hg1 hK1 hown1 d0 d1 e0 e1 c0 c1 f0 f1 PKS1
          have PKS2 := mkHid ((pk1.setBad true).alloc (.cells #[.int .u8 (N / 256 % 256)] 5))
          obtain ⟨c0, c1, f0, f1⟩ := pk1.facts
          have hlt2 := pk1.lt
          have hgb2 := pk1.gb
          have hln2 := pk1.len
          have HLN2 := mkHid hln2
          clear hln2
          go_upto_region 14 with (at_builtin; refine wpList_app _ rfl (.tmp 117) (.tmp 121) _ rfl base el_u8 A1 (n + 2) C1 _ rfl PKS2.out.own (v1.heap.size + 1) (some ⟨v1.heap.size, 0, none⟩) 1 1 ([N / 256 % 256].map Go.Proofs.Ytncbckbcdopipaa.u8) rfl (SL.new _ (by simp [World.setCell]) rfl) (u8_cells _) (by unfold maxLen; omega) (by omega) (by simp [World.setCell]; omega) ?_; intro A2 C2 x2 hown2 hg2 hat2; clear hat2; obtain ⟨d0, d1, e0, e1⟩ := facts2 (PKS2.out.grown hg2))
          rw [← List.map_append] at hown2
          obtain ⟨pk2, hB2, hK2⟩ := pk1.step hg2 hown2 (pk1.ok.append (bytes_ok _ (by intro x hx; simp only [List.mem_cons, List.not_mem_nil, or_false] at hx; omega)))
          have hn2 := hK2 _ _ _ _ hn1 (by decide) (by decide)
          generalize hv2 : World.setCell x2 _ _ = v2 at *
          clear hv2 hg2 hK2 hown2 d0 d1 e0 e1 c0 c1 f0 f1 PKS2
          have PKS3 := mkHid ((pk2.setBad true).alloc (.cells #[.int .u8 (N % 256)] 5))
          obtain ⟨c0, c1, f0, f1⟩ := pk2.facts
          have hlt3 := pk2.lt
          have hgb3 := pk2.gb
          have hln3 := pk2.len
          have HLN3 := mkHid hln3
          clear hln3
          go_upto_region 16 with (at_builtin; refine wpList_app _ rfl (.tmp 149) (.tmp 152) _ rfl base el_u8 A2 ((n + 2) + 1) C2 _ rfl PKS3.out.own (v2.heap.size + 1) (some ⟨v2.heap.size, 0, none⟩) 1 1 ([N % 256].map Go.Proofs.Ytncbckbcdopipaa.u8) rfl (SL.new _ (by simp [World.setCell]) rfl) (u8_cells _) (by unfold maxLen; omega) (by omega) (by simp [World.setCell]; omega) ?_; intro A3 C3 x3 hown3 hg3 hat3; clear hat3; obtain ⟨d0, d1, e0, e1⟩ := facts2 (PKS3.out.grown hg3))
          rw [← List.map_append] at hown3
          obtain ⟨pk3, hB3, hK3⟩ := pk2.step hg3 hown3 (pk2.ok.append (bytes_ok _ (by intro x hx; simp only [List.mem_cons, List.not_mem_nil, or_false] at hx; omega)))
          have hn3 := hK3 _ _ _ _ hn2 (by decide) (by decide)
          generalize hv3 : World.setCell x3 _ _ = v3 at *
          clear hv3 hg3 hK3 hown3 d0 d1 e0 e1 c0 c1 f0 f1 PKS3
          go_wp2_with fail
          go_roundw
          case rel =>
            have hfin : PK v3 g base A3 (((n + 2) + 1) + 1) C3 (bs ++ packs 4 (l.take (q + 1))) (bad || !(l.take (q + 1)).all (fits 4)) := by
              rw [HP.out, HA.out, ← List.append_assoc, nb4_eq, HFT.out, show (false || !false) = true from rfl]
              exact pk3
            exact ⟨q + 1, (((n + 2) + 1) + 1), A3, C3, by omega, by go_num, by omega, hfin, hn3, hb.trans ((hB1.trans hB2).trans hB3)⟩
          case measure => simp [intOf]; omega
        have HFT := mkHid (show fits 4 N = true by unfold fits; rw [if_neg (by decide)]; exact decide_eq_true ⟨by omega, by rw [show (256 : Int) ^ 4 = 4294967296 from rfl]; omega⟩)
        have hsh : (N / 4294967296 != 0) = false := by rw [bne_eq_false_iff_eq]; omega
        have HBG := mkHid hbig
        clear hbig
        have PKS1 := mkHid ((pk0.setBad false).alloc (.cells #[.int .u8 (N / 16777216 % 256), .int .u8 (N / 65536 % 256)] 5))
        obtain ⟨c0, c1, f0, f1⟩ := pk0.facts
        have hlt1 := pk0.lt
        have hgb1 := pk0.gb
        have hln1 := pk0.len
        have HLN1 := mkHid hln1
        clear hln1
        go_upto_region 12 with (at_builtin; refine wpList_app _ rfl (.tmp 82) (.tmp 89) _ rfl base el_u8 A n C _ rfl PKS1.out.own (wr.heap.size + 1) (some ⟨wr.heap.size, 0, none⟩) 2 2 ([N / 16777216 % 256, N / 65536 % 256].map Go.Proofs.Ytncbckbcdopipaa.u8) rfl (SL.new _ (by simp [World.setCell]) rfl) (u8_cells _) (by unfold maxLen; omega) (by omega) (by simp [World.setCell]; omega) ?_; intro A1 C1 x1 hown1 hg1 hat1; clear hat1; obtain ⟨d0, d1, e0, e1⟩ := facts2 (PKS1.out.grown hg1))
        rw [← List.map_append] at hown1
        obtain ⟨pk1, hB1, hK1⟩ := pk0.step hg1 hown1 (pk0.ok.append (bytes_ok _ (by intro x hx; simp only [List.mem_cons, List.not_mem_nil, or_false] at hx; omega)))
        have hn1 := hK1 _ _ _ _ hnum (by decide) (by decide)
        generalize hv1 : World.setCell x1 _ _ = v1 at *
        clear hv1 hg1 hK1 hown1 d0 d1 e0 e1 c0 c1 f0 f1 PKS1
        have PKS2 := mkHid ((pk1.setBad false).alloc (.cells #[.int .u8 (N / 256 % 256)] 5))
        obtain ⟨c0, c1, f0, f1⟩ := pk1.facts
        have hlt2 := pk1.lt
        have hgb2 := pk1.gb
        have hln2 := pk1.len
        have HLN2 := mkHid hln2
        clear hln2
        go_upto_region 14 with (at_builtin; refine wpList_app _ rfl (.tmp 117) (.tmp 121) _ rfl base el_u8 A1 (n + 2) C1 _ rfl PKS2.out.own (v1.heap.size + 1) (some ⟨v1.heap.size, 0, none⟩) 1 1 ([N / 256 % 256].map Go.Proofs.Ytncbckbcdopipaa.u8) rfl (SL.new _ (by simp [World.setCell]) rfl) (u8_cells _) (by unfold maxLen; omega) (by omega) (by simp [World.setCell]; omega) ?_; intro A2 C2 x2 hown2 hg2 hat2; clear hat2; obtain ⟨d0, d1, e0, e1⟩ := facts2 (PKS2.out.grown hg2))
        rw [← List.map_append] at hown2
        obtain ⟨pk2, hB2, hK2⟩ := pk1.step hg2 hown2 (pk1.ok.append (bytes_ok _ (by intro x hx; simp only [List.mem_cons, List.not_mem_nil, or_false] at hx; omega)))
        have hn2 := hK2 _ _ _ _ hn1 (by decide) (by decide)
        generalize hv2 : World.setCell x2 _ _ = v2 at *
        clear hv2 hg2 hK2 hown2 d0 d1 e0 e1 c0 c1 f0 f1 PKS2
        have PKS3 := mkHid ((pk2.setBad false).alloc (.cells #[.int .u8 (N % 256)] 5))
        obtain ⟨c0, c1, f0, f1⟩ := pk2.facts
        have hlt3 := pk2.lt
        have hgb3 := pk2.gb
        have hln3 := pk2.len
        have HLN3 := mkHid hln3
        clear hln3
        go_upto_region 16 with (at_builtin; refine wpList_app _ rfl (.tmp 149) (.tmp 152) _ rfl base el_u8 A2 ((n + 2) + 1) C2 _ rfl PKS3.out.own (v2.heap.size + 1) (some ⟨v2.heap.size, 0, none⟩) 1 1 ([N % 256].map Go.Proofs.Ytncbckbcdopipaa.u8) rfl (SL.new _ (by simp [World.setCell]) rfl) (u8_cells _) (by unfold maxLen; omega) (by omega) (by simp [World.setCell]; omega) ?_; intro A3 C3 x3 hown3 hg3 hat3; clear hat3; obtain ⟨d0, d1, e0, e1⟩ := facts2 (PKS3.out.grown hg3))
        rw [← List.map_append] at hown3
        obtain ⟨pk3, hB3, hK3⟩ := pk2.step hg3 hown3 (pk2.ok.append (bytes_ok _ (by intro x hx; simp only [List.mem_cons, List.not_mem_nil, or_false] at hx; omega)))
        have hn3 := hK3 _ _ _ _ hn2 (by decide) (by decide)
        generalize hv3 : World.setCell x3 _ _ = v3 at *
        clear hv3 hg3 hK3 hown3 d0 d1 e0 e1 c0 c1 f0 f1 PKS3
        go_wp2_with fail
        go_roundw
        case rel =>
          have hfin : PK v3 g base A3 (((n + 2) + 1) + 1) C3 (bs ++ packs 4 (l.take (q + 1))) (bad || !(l.take (q + 1)).all (fits 4)) := by
            rw [HP.out, HA.out, ← List.append_assoc, nb4_eq, HFT.out, show (false || !true) = false from rfl]
            exact pk3
          exact ⟨q + 1, (((n + 2) + 1) + 1), A3, C3, by omega, by go_num, by omega, hfin, hn3, hb.trans ((hB1.trans hB2).trans hB3)⟩
        case measure => simp [intOf]; omega
    · obtain rfl : q = m := by omega
      rw [List.take_of_length_le (by omega)] at pk0
      go_wp2_with fail
      go_ret
      exact ⟨rfl, ⟨A, n, C, pk0⟩, hb⟩

end Go.Proofs.Ytncbckbcdopipaa
