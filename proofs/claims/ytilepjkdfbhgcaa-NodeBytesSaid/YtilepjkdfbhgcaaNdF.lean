/- Node.of by contract: pairs as a node. -/
import Derived.Test.YtilepjkdfbhgcaaNdE
namespace Go.Proofs.Ytilepjkdfbhgcaa
open Go.RowKit Go.Shelf

theorem el_int : ElemOk Try.prog 22 3 1 8 := .mk' Try.underlying22 (z := .int .i64 0) (by kernel_rfl) rfl (by decide)
/-- A node's value: its level, its keys and its values as they read in w. -/
def NdIn (w : World) (v : Value) (lv : Int) (ks vs : List Int) : Prop :=
  ∃ A n C A' m C', v = .agg #[.int .i64 lv, .slice A n C, .slice A' m C'] ∧ IS w w.heap.size A n ks ∧ IS w w.heap.size A' m vs ∧ CapOk n C ∧ CapOk m C'
theorem NdIn.next {w w' : World} {v : Value} {lv : Int} {ks vs : List Int} (h : NdIn w v lv ks vs) (hb : Below w.heap.size w w') : NdIn w' v lv ks vs := by
  obtain ⟨A, n, C, A', m, C', rfl, h1, h2, h3, h4⟩ := h
  exact ⟨A, n, C, A', m, C', rfl, (h1.below hb).more hb.size, (h2.below hb).more hb.size, h3, h4⟩
def keysOf (xs : List (Int × Int)) : List Int := xs.map fun x => x.1
def valsOf (xs : List (Int × Int)) : List Int := xs.map fun x => x.2
theorem keys_len (xs : List (Int × Int)) : (keysOf xs).length = xs.length := List.length_map ..
theorem vals_len (xs : List (Int × Int)) : (valsOf xs).length = xs.length := List.length_map ..
/-- A node's rows lie from block B on. -/
def NdNew (B : Nat) (v : Value) : Prop := ∀ l A n C A' m C', v = .agg #[l, .slice A n C, .slice A' m C'] → (∀ ad : Addr, A = some ad → B ≤ ad.block) ∧ ∀ ad : Addr, A' = some ad → B ≤ ad.block
theorem NdNew.mk' {B n C m C' : Nat} {l : Value} {A A' : Option Addr} (h1 : ∀ ad : Addr, A = some ad → B ≤ ad.block) (h2 : ∀ ad : Addr, A' = some ad → B ≤ ad.block) : NdNew B (.agg #[l, .slice A n C, .slice A' m C']) := by
  intro l' A2 n2 C2 A2' m2 C2' h
  injection h with h
  have e := congrArg Array.toList h
  simp at e
  obtain ⟨_, ⟨rfl, _⟩, ⟨rfl, _⟩⟩ := e
  exact ⟨h1, h2⟩
theorem IS.set_other {w : World} {B n : Nat} {A : Option Addr} {l : List Int} {p : Addr} {v : Value} (h : IS w B A n l) (hp : ∀ ad : Addr, A = some ad → ad.block ≠ p.block) : IS (w.setCell p v) B A n l := by
  refine ⟨⟨h.1.1, fun j hj => ?_⟩, h.2⟩
  obtain ⟨b, o, e, hb, hc⟩ := h.1.2 j hj
  exact ⟨b, o, e, hb, (World.cell?_of_block (w := w) (a := ⟨b, o + j, none⟩) (heap_setCell_other _ _ _ _ (hp ⟨b, o, none⟩ e))).trans hc⟩
theorem own_from {w : World} {B : Nat} {e : TypeId} {s n c : Nat} {A : Option Addr} {xs : List Value} (h : w.ownsRow B e s (.slice A n c) n xs) : ∀ ad : Addr, A = some ad → B ≤ ad.block := by
  intro ad hA
  obtain ⟨A2, c2, he, _, h2⟩ := own_form _ h
  injection he with he
  subst he
  rcases h2 with h2 | ⟨g, h2, h3, _⟩
  · rw [hA] at h2; cases h2
  · rw [hA] at h2; injection h2 with h2; rw [h2]; exact h3
/-- A new node of pairs is answered; what was there is as it was. -/
def RetN (w : World) (lv : Int) (ks vs : List Int) (e : Ending) (w' : World) : Prop := ∃ v, e = .returned v ∧ NdIn w' v lv ks vs ∧ NdNew w.heap.size v ∧ Below w.heap.size w w'
theorem map_take_succ {α β : Type} (f : α → β) {xs : List α} {k : Nat} {x : α} (hx : xs[k]? = some x) : (xs.map f).take (k + 1) = (xs.map f).take k ++ [f x] := by
  obtain ⟨hl, he⟩ := List.getElem?_eq_some_iff.1 hx
  rw [List.take_succ_eq_append_getElem (by rw [List.length_map]; exact hl), List.getElem_map, he]

theorem own_blk {w w' : World} {base : Nat} {e : TypeId} {s n : Nat} {v : Value} {xs : List Value} (h : w.ownsRow base e s v n xs) (hk : ∀ g, v.ownBlock = some g → w'.heap[g]? = w.heap[g]?) : w'.ownsRow base e s v n xs := by
  refine ⟨h.1, ?_⟩
  rcases h.2 with h0 | ⟨g, cap, cur, rfl, h2, h3, h4⟩
  · exact .inl h0
  · exact .inr ⟨g, cap, cur, rfl, h2, (hk g rfl).trans h3, h4⟩

/-- What is known behind the first append of a round. -/
theorem nof_step {w wr w3 : World} {lv x y : Int} {A A' A3 : Option Addr} {k C C' C3 : Nat} {xs ys : List Value} {t1 t2 : TypeId}
    (HO : wr.ownsRow (w.heap.size + 3) 3 1 (.slice A k C) k xs) (HV : wr.ownsRow (w.heap.size + 3) 3 1 (.slice A' k C') k ys) (HD : ∀ g, (Value.slice A k C).ownBlock = some g → (Value.slice A' k C').ownBlock ≠ some g)
    (HB : Below w.heap.size w wr) (HQ : wr.heap[w.heap.size + 2]? = some (.cells #[.int .i64 lv, .slice A k C, .slice A' k C'] 32)) (HZ : wr.heap[w.heap.size + 1]? = some (.cells #[.int .i64 0, .slice none 0 0, .slice none 0 0] 32))
    (hg : ((wr.alloc (.cells #[.int .i64 x, .int .i64 y] t1)).alloc (.cells #[.int .i64 x] t2)).grownBy w3 (Value.slice A k C).ownBlock)
    (hd : (Value.slice A3 (k + 1) C3).ownBlock = (Value.slice A k C).ownBlock ∨ (Value.slice A3 (k + 1) C3).ownBlock = some ((wr.alloc (.cells #[.int .i64 x, .int .i64 y] t1)).alloc (.cells #[.int .i64 x] t2)).heap.size) :
    w3.ownsRow (w.heap.size + 3) 3 1 (.slice A' k C') k ys ∧ (∀ g, (Value.slice A3 (k + 1) C3).ownBlock = some g → (Value.slice A' k C').ownBlock ≠ some g) ∧ Below w.heap.size w w3 ∧
      w3.heap[w.heap.size + 2]? = some (.cells #[.int .i64 lv, .slice A k C, .slice A' k C'] 32) ∧ w3.heap[w.heap.size + 1]? = some (.cells #[.int .i64 0, .slice none 0 0, .slice none 0 0] 32) ∧
      w3.cell? ⟨wr.heap.size, 1, none⟩ = some (.int .i64 y) ∧ (w3.cell? ⟨w.heap.size + 1 + 1, 1, none⟩ = some (.slice A k C)) ∧ (w3.cell? ⟨w.heap.size + 1 + 1, 2, none⟩ = some (.slice A' k C')) ∧ w3.frozen? ⟨w.heap.size + 1 + 1, 1, none⟩ = false := by
  have hsz := HB.size
  have hlt : w.heap.size + 2 < wr.heap.size := (Array.getElem?_eq_some_iff.1 HQ).1
  have old : ∀ g, g < wr.heap.size → some g ≠ (Value.slice A k C).ownBlock → w3.heap[g]? = wr.heap[g]? := fun g h1 h2 => (hg.block g (by simp; omega) h2).trans ((Below.heap_alloc _ _ _ (by simp; omega)).trans (Below.heap_alloc _ _ _ h1))
  have hq := (old (w.heap.size + 2) (by omega) (fun e => by have := (HO.lt _ e.symm).1; omega)).trans HQ
  refine ⟨own_blk HV fun g h => old g (HV.lt _ h).2 fun e => HD g e.symm h, fun g h e => ?_, ⟨hg.os.trans HB.os, hg.tape.trans HB.tape, hg.output.trans HB.output, by have := hg.size; simp at this; omega, fun b hb => (old b (by omega) (fun e => by have := (HO.lt _ e.symm).1; omega)).trans (HB.block b hb)⟩, hq, (old (w.heap.size + 1) (by omega) (fun e => by have := (HO.lt _ e.symm).1; omega)).trans HZ, ?_, ?_, ?_, ?_⟩
  · rcases hd with h1 | h1
    · exact HD g (h1 ▸ h) e
    · rw [h1] at h
      injection h with h
      have := (HV.lt _ e).2
      simp at h
      omega
  · have h2 : w3.heap[wr.heap.size]? = some (.cells #[.int .i64 x, .int .i64 y] t1) := (hg.block wr.heap.size (by simp; omega) (fun e => by have := (HO.lt _ e.symm).2; omega)).trans ((Below.heap_alloc _ _ _ (by simp)).trans (heap_alloc_new _ _))
    rw [cell_of_row _ _ _ _ _ _ h2]; rfl
  · rw [cell_of_row _ _ _ _ _ _ hq]; rfl
  · rw [cell_of_row _ _ _ _ _ _ hq]; rfl
  · exact frozen_of_row _ _ _ _ _ hq

theorem setCell_size (w : World) (p : Addr) (v : Value) : (w.setCell p v).heap.size = w.heap.size := by simp [World.setCell]
theorem nof_mid {w3 : World} {B n k C' : Nat} {A' : Option Addr} {ys : List Value} (HV : w3.ownsRow (B + 3) 3 1 (.slice A' k C') n ys) (v : Value) : (w3.setCell ⟨B + 1 + 1, 1, none⟩ v).ownsRow (B + 3) 3 1 (.slice A' k C') n ys :=
  ownsRow_setCell_other HV (fun e => by have := (HV.lt _ e).1; simp only at this; omega) v
theorem nof_off {w : World} {B n s j : Nat} {v : Value} {e : TypeId} {ys : List Value} (HV : w.ownsRow (B + 3) e s v n ys) : v.ownBlock ≠ some (⟨B + 1, j, none⟩ : Addr).block := fun e => by have := (HV.lt _ e).1; simp only at this; omega
/-- What is known behind the second append of a round. -/
theorem nof_step2 {w w3 w4 : World} {lv y : Int} {A A' A3 A4 : Option Addr} {k C C' C3 C4 : Nat} {xs ys : List Value} {t2 : TypeId}
    (HO : w3.ownsRow (w.heap.size + 3) 3 1 (.slice A3 (k + 1) C3) (k + 1) xs) (HV : w3.ownsRow (w.heap.size + 3) 3 1 (.slice A' k C') k ys) (HD : ∀ g, (Value.slice A3 (k + 1) C3).ownBlock = some g → (Value.slice A' k C').ownBlock ≠ some g)
    (HB : Below w.heap.size w w3) (HQ : w3.heap[w.heap.size + 2]? = some (.cells #[.int .i64 lv, .slice A k C, .slice A' k C'] 32)) (HZ : w3.heap[w.heap.size + 1]? = some (.cells #[.int .i64 0, .slice none 0 0, .slice none 0 0] 32))
    (hg : ((w3.setCell ⟨w.heap.size + 1 + 1, 1, none⟩ (.slice A3 (k + 1) C3)).alloc (.cells #[.int .i64 y] t2)).grownBy w4 (Value.slice A' k C').ownBlock)
    (hd : (Value.slice A4 (k + 1) C4).ownBlock = (Value.slice A' k C').ownBlock ∨ (Value.slice A4 (k + 1) C4).ownBlock = some ((w3.setCell ⟨w.heap.size + 1 + 1, 1, none⟩ (.slice A3 (k + 1) C3)).alloc (.cells #[.int .i64 y] t2)).heap.size) :
    w4.ownsRow (w.heap.size + 3) 3 1 (.slice A3 (k + 1) C3) (k + 1) xs ∧ (∀ g, (Value.slice A3 (k + 1) C3).ownBlock = some g → (Value.slice A4 (k + 1) C4).ownBlock ≠ some g) ∧ Below w.heap.size w w4 ∧
      w4.heap[w.heap.size + 1 + 1]? = some (.cells #[.int .i64 lv, .slice A3 (k + 1) C3, .slice A' k C'] 32) ∧ w4.heap[w.heap.size + 1]? = some (.cells #[.int .i64 0, .slice none 0 0, .slice none 0 0] 32) ∧
      (w4.cell? ⟨w.heap.size + 1 + 1, 2, none⟩ = some (.slice A' k C')) ∧ w4.frozen? ⟨w.heap.size + 1 + 1, 2, none⟩ = false := by
  have hsz := HB.size
  have hlt : w.heap.size + 2 < w3.heap.size := (Array.getElem?_eq_some_iff.1 HQ).1
  have hss : ((w3.setCell ⟨w.heap.size + 1 + 1, 1, none⟩ (.slice A3 (k + 1) C3)).alloc (.cells #[.int .i64 y] t2)).heap.size = w3.heap.size + 1 := by simp [World.setCell]
  have old : ∀ g, g < w3.heap.size → some g ≠ (Value.slice A' k C').ownBlock → w4.heap[g]? = (w3.setCell ⟨w.heap.size + 1 + 1, 1, none⟩ (.slice A3 (k + 1) C3)).heap[g]? := fun g h1 h2 => (hg.block g (by rw [hss]; omega) h2).trans (Below.heap_alloc _ _ _ (by rw [setCell_size]; exact h1))
  have oth : ∀ g, g ≠ w.heap.size + 1 + 1 → (w3.setCell ⟨w.heap.size + 1 + 1, 1, none⟩ (.slice A3 (k + 1) C3)).heap[g]? = w3.heap[g]? := fun g h => heap_setCell_other _ _ _ _ h
  have hq : w4.heap[w.heap.size + 1 + 1]? = some (.cells #[.int .i64 lv, .slice A3 (k + 1) C3, .slice A' k C'] 32) := (old (w.heap.size + 1 + 1) (by omega) (fun e => by have := (HV.lt _ e.symm).1; omega)).trans (by rw [heap_setCell_same _ _ _ _ _ _ HQ]; rfl)
  refine ⟨own_blk HO fun g h => (old g (HO.lt _ h).2 fun e => HD g h e.symm).trans (oth g (by have := (HO.lt _ h).1; omega)), fun g h e => ?_, ⟨hg.os.trans HB.os, hg.tape.trans HB.tape, hg.output.trans HB.output, by have := hg.size; rw [hss] at this; omega, fun b hb => (old b (by omega) (fun e => by have := (HV.lt _ e.symm).1; omega)).trans ((oth b (by omega)).trans (HB.block b hb))⟩, hq, (old (w.heap.size + 1) (by omega) (fun e => by have := (HV.lt _ e.symm).1; omega)).trans ((oth _ (by omega)).trans HZ), ?_, ?_⟩
  · rcases hd with h1 | h1
    · exact HD g h (h1 ▸ e)
    · rw [h1, hss] at e
      injection e with e
      have := (HO.lt _ h).2
      omega
  · rw [cell_of_row _ _ _ _ _ _ hq]; rfl
  · exact frozen_of_row _ _ _ _ _ hq

set_option maxRecDepth 20000 in
set_option maxHeartbeats 2000000 in
theorem nof_any (lv : Int) (a0 a1 : Option Addr) (n0 n1 c0 c1 : Nat) (a : Option Addr) (n c : Nat) (xs : List (Int × Int)) (w : World) (hs : ES w w.heap.size a n xs) (hn : n ≤ 1000000) :
    Calls Try.prog 42 #[.agg #[.int .i64 lv, .slice a0 n0 c0, .slice a1 n1 c1], .slice a n c] w (RetN w lv (keysOf xs) (valsOf xs)) := by
  have HS := mkHid hs
  have HL := mkHid hs.len
  clear hs
  go_enter Try.func42, Try.ntmps42
  go_wp2_with fail
  go_loopw [13] (fun i wr => ∃ (k : Nat) (A : Option Addr) (C : Nat) (A' : Option Addr) (C' : Nat), k ≤ n ∧ i = .int .i64 k ∧ Hid (wr.ownsRow (w.heap.size + 3) 3 1 (.slice A k C) k (((keysOf xs).take k).map i64v)) ∧ Hid (wr.ownsRow (w.heap.size + 3) 3 1 (.slice A' k C') k (((valsOf xs).take k).map i64v)) ∧ Hid (∀ g, (Value.slice A k C).ownBlock = some g → (Value.slice A' k C').ownBlock ≠ some g) ∧ Hid (Below w.heap.size w wr) ∧ Hid (wr.heap[w.heap.size + 2]? = some (.cells #[.int .i64 lv, .slice A k C, .slice A' k C'] 32)) ∧ Hid (wr.heap[w.heap.size + 1]? = some (.cells #[.int .i64 0, .slice none 0 0, .slice none 0 0] 32))) (fun i _ => n - (intOf i).toNat)
  case atStart =>
    refine ⟨0, none, 0, none, 0, Nat.zero_le _, rfl, mkHid (World.ownsRow_nil _ _ _ _), mkHid (World.ownsRow_nil _ _ _ _), mkHid (fun g h => by cases h), mkHid ((((Below.refl _ _).alloc (Nat.le_refl _) _).alloc (by simp) _).alloc (by simp; omega) _), mkHid ?_, mkHid ?_⟩
    · have h := heap_alloc_new ((w.alloc (.cells #[.int .i64 lv, .slice a0 n0 c0, .slice a1 n1 c1] 32)).alloc (.cells #[.int .i64 0, .slice none 0 0, .slice none 0 0] 32)) (.cells #[.int .i64 lv, .slice none 0 0, .slice none 0 0] 32)
      simpa using h
    · have h := heap_alloc_new (w.alloc (.cells #[.int .i64 lv, .slice a0 n0 c0, .slice a1 n1 c1] 32)) (.cells #[.int .i64 0, .slice none 0 0, .slice none 0 0] 32)
      refine (Below.heap_alloc _ _ _ (by simp)).trans ?_
      simpa using h
  case round =>
    obtain ⟨k, A, C, A', C', hk, rfl, HO, HV, HD, HB, HQ, HZ⟩ := hrel
    have hsz := HB.out.size
    have hlt0 : w.heap.size + 2 < wr.heap.size := (Array.getElem?_eq_some_iff.1 HQ.out).1
    by_cases hlt : k < n
    · obtain ⟨b, o, xy, rfl, hb, hx, _, hc0, hc1⟩ := HS.out.at_ hlt
      have HX := mkHid (map_take_succ (fun x : Int × Int => x.1) hx)
      have HY := mkHid (map_take_succ (fun x : Int × Int => x.2) hx)
      obtain ⟨x, y⟩ := xy
      simp only at hc0 hc1
      have d0 := (HB.out.cell (p := ⟨b, o + k * 2, none⟩) hb).trans hc0
      have d1 := (HB.out.cell (p := ⟨b, o + k * 2 + 1, none⟩) hb).trans hc1
      have d3 := cell_of_row wr (w.heap.size + 2) 1 _ _ _ HQ.out
      have d4 := cell_of_row wr (w.heap.size + 2) 2 _ _ _ HQ.out
      simp at d3 d4
      clear hx hc0 hc1
      have hne : ¬ (wr.heap.size = w.heap.size + 1 + 1) := by omega
      go_wp2_with (first
        | (at_builtin; refine wpList_app _ rfl (.tmp 18) (.tmp 21) _ rfl (w.heap.size + 3) el_int A k C _ rfl ((HO.out.alloc _).alloc _) (wr.heap.size + 2) (some ⟨wr.heap.size + 1, 0, none⟩) 1 1 [.int .i64 x] rfl (SL.of_block (cur := #[.int .i64 x]) (e := 3) (fr := (0, 0)) (by have h := heap_alloc_new (wr.alloc (.cells #[.int .i64 x, .int .i64 y] 52)) (.cells #[.int .i64 x] 3); simpa using h) rfl (by omega)) (i64_cells [x]) (by unfold maxLen; omega) (by omega) (by simp; omega) ?_; intro A3 C3 w3 ho3 hg3 hd3; have hf3 := nof_step HO.out HV.out HD.out HB.out HQ.out HZ.out hg3 hd3; have HF3 := mkHid hf3; have HO3 := mkHid ho3; clear ho3 hg3 hd3; obtain ⟨_, _, _, _, _, q1, q2, q3, z1⟩ := hf3)
        | (at_builtin; refine wpList_app _ rfl (.tmp 25) (.tmp 28) _ rfl (w.heap.size + 3) el_int A' k C' _ rfl ((nof_mid HF3.out.1 (.slice A3 (k + 1) C3)).alloc _) (w3.heap.size + 1) (some ⟨w3.heap.size, 0, none⟩) 1 1 [.int .i64 y] rfl (SL.of_block (cur := #[.int .i64 y]) (e := 3) (fr := (0, 0)) (by have h := heap_alloc_new (w3.setCell ⟨w.heap.size + 1 + 1, 1, none⟩ (.slice A3 (k + 1) C3)) (.cells #[.int .i64 y] 3); rw [setCell_size] at h; exact h) rfl (by omega)) (i64_cells [y]) (by unfold maxLen; omega) (by omega) (by have := HF3.out.2.2.1.size; have := (Array.getElem?_eq_some_iff.1 HF3.out.2.2.2.1).1; simp; omega) ?_; intro A4 C4 w4 ho4 hg4 hd4; have hf4 := nof_step2 HO3.out HF3.out.1 HF3.out.2.1 HF3.out.2.2.1 HF3.out.2.2.2.1 HF3.out.2.2.2.2.1 hg4 hd4; have HF4 := mkHid hf4; have HO4 := mkHid ho4; clear ho4 hg4 hd4 q1 q2 q3 z1; obtain ⟨_, _, _, _, _, q4, z4⟩ := hf4))
      go_roundw
      case measure => simp [intOf]; omega
      case rel =>
        obtain ⟨o5, d5, b5, h5, z5, _, _⟩ := HF4.out
        refine ⟨k + 1, A3, C3, A4, C4, by omega, by go_num, mkHid ?_, mkHid ?_, mkHid d5, mkHid (b5.setCell (p := ⟨w.heap.size + 1 + 1, 2, none⟩) (by show w.heap.size ≤ w.heap.size + 1 + 1; omega) _), mkHid ?_, mkHid ?_⟩
        · refine ownsRow_setCell_other ?_ (fun e => by have := (o5.lt _ e).1; simp only at this; omega) _
          unfold keysOf at o5 ⊢
          rw [HX.out, List.map_append]
          exact o5
        · refine ownsRow_setCell_other ?_ (fun e => by have := (HO4.out.lt _ e).1; simp only at this; omega) _
          have h6 := HO4.out
          unfold valsOf at h6 ⊢
          rw [HY.out, List.map_append]
          exact h6
        · exact heap_setCell_same _ _ _ _ _ _ h5
        · exact (heap_setCell_other _ _ _ _ (by simp)).trans z5
    · obtain rfl : k = n := by omega
      have e1 : (keysOf xs).take k = keysOf xs := List.take_of_length_le (by rw [keys_len, HL.out]; omega)
      have e2 : (valsOf xs).take k = valsOf xs := List.take_of_length_le (by rw [vals_len, HL.out]; omega)
      rw [e1] at HO
      rw [e2] at HV
      have HIK := mkHid (show ∀ x ∈ keysOf xs, I64 x from fun x hx => by obtain ⟨y, hy, rfl⟩ := List.mem_map.1 hx; exact (HS.out.2 y hy).1)
      have HIV := mkHid (show ∀ x ∈ valsOf xs, I64 x from fun x hx => by obtain ⟨y, hy, rfl⟩ := List.mem_map.1 hx; exact (HS.out.2 y hy).2)
      have HC1 := mkHid (own_cap HO.out)
      have HC2 := mkHid (own_cap HV.out)
      have c0 := cell_of_row wr (w.heap.size + 2) 0 _ _ _ HQ.out
      have c1 := cell_of_row wr (w.heap.size + 2) 1 _ _ _ HQ.out
      have c2 := cell_of_row wr (w.heap.size + 2) 2 _ _ _ HQ.out
      have y0 := cell_of_row wr (w.heap.size + 1) 0 _ _ _ HZ.out
      have y1 := cell_of_row wr (w.heap.size + 1) 1 _ _ _ HZ.out
      have y2 := cell_of_row wr (w.heap.size + 1) 2 _ _ _ HZ.out
      have f0 := frozen_of_row wr (w.heap.size + 1) 0 _ _ HZ.out
      have f1 := frozen_of_row wr (w.heap.size + 1) 1 _ _ HZ.out
      have f2 := frozen_of_row wr (w.heap.size + 1) 2 _ _ HZ.out
      simp at c0 c1 c2 y0 y1 y2
      clear e1 e2
      go_wp2_with fail
      refine bodyPost_ret (v := .agg #[.int .i64 lv, .slice A k C, .slice A' k C']) (by simp [results, Try.results42, go_sem, y0, y1, y2]) rfl ?_
      refine ⟨_, rfl, ⟨A, k, C, A', k, C', rfl, ⟨?_, HIK.out⟩, ⟨?_, HIV.out⟩, ⟨HC1.out.1, HC1.out.2, by omega⟩, ⟨HC2.out.1, HC2.out.2, by omega⟩⟩, NdNew.mk' (fun ad h => by have := own_from HO.out ad h; omega) (fun ad h => by have := own_from HV.out ad h; omega), ?_⟩
      · exact SL.of_own (ownsRow_setCell_other (ownsRow_setCell_other (ownsRow_setCell_other HO.out (nof_off HO.out) _) (nof_off HO.out) _) (nof_off HO.out) _)
      · exact SL.of_own (ownsRow_setCell_other (ownsRow_setCell_other (ownsRow_setCell_other HV.out (nof_off HV.out) _) (nof_off HV.out) _) (nof_off HV.out) _)
      · exact ((HB.out.setCell (p := ⟨w.heap.size + 1, 0, none⟩) (by show w.heap.size ≤ w.heap.size + 1; omega) _).setCell (p := ⟨w.heap.size + 1, 1, none⟩) (by show w.heap.size ≤ w.heap.size + 1; omega) _).setCell (p := ⟨w.heap.size + 1, 2, none⟩) (by show w.heap.size ≤ w.heap.size + 1; omega) _

end Go.Proofs.Ytilepjkdfbhgcaa
